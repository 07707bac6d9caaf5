/-
  HomeAlone keeps to the plain law.
  Conditions: none.
-/
import Derived.Test.YtohkplmfihhhnaaHs3
import Derived.Test.YtohkplmfihhhnaaHa2
import Derived.Test.YtohkplmfihhhnaaFa2
set_option linter.unusedVariables false
namespace Go.Ev.Hom
open Go

def L4.cells (l : L4) : List Value := [.int .u32 l.a, .int .u32 l.b, .int .u32 l.c, .int .u32 l.d]
def ic (l : List Int) : List Value := l.map (Value.int .i64)

theorem same_spec {σ : Store} (x y : L4) {K : Value → Store → Prop} (hK : K (.bool (decide (x = y))) σ) : Spec Pr F.corralref_SameLine [x.agg, y.agg] σ K := by
  obtain ⟨a, b, c, d⟩ := x
  obtain ⟨a', b', c', d'⟩ := y
  refine corralref_SameLine.ok (cond_i (fun e1 => cond_i (fun e2 => cond_i (fun e3 => ?_) (fun e => ?_)) (fun e => ?_)) (fun e => ?_))
  · simp at e1 e2 e3
    subst e1 e2 e3
    have : (d == d') = decide ((L4.mk a b c d) = ⟨a, b, c, d'⟩) := by
      by_cases h : d = d' <;> simp [h]
    rw [this]; exact hK
  all_goals
    simp at e
    rw [decide_eq_false (fun h => e (by injection h))] at hK
    exact hK

/-! ### The store of the statement -/
structure LA (σ0 : Store) (p s v sb nb : Nat) (σ : Store) (h : HM L4) (st : List Int) (now : L4) : Prop where
  home : At σ p s v h
  hst : σ sb = some ⟨3, ic st, (0, 0)⟩
  hnow : σ nb = some ⟨25, now.cells, (0, 0)⟩
  d1 : sb ≠ p ∧ sb ≠ s ∧ sb ≠ v ∧ nb ≠ p ∧ nb ≠ s ∧ nb ≠ v ∧ nb ≠ sb
  base : ∀ b, σ0 b ≠ none → σ b = σ0 b
  fr : σ0 p = none ∧ σ0 s = none ∧ σ0 v = none ∧ σ0 sb = none ∧ σ0 nb = none

variable {σ0 : Store} {p s v sb nb : Nat}

theorem LA.dom {σ : Store} {h : HM L4} {st : List Int} {now : L4} (L : LA σ0 p s v sb nb σ h st now) : σ p ≠ none ∧ σ s ≠ none ∧ σ v ≠ none ∧ σ sb ≠ none ∧ σ nb ≠ none ∧ ∀ b, σ0 b ≠ none → σ b ≠ none :=
  ⟨L.home.np, L.home.ns, L.home.nv, by rw [L.hst]; simp, by rw [L.hnow]; simp, fun b hb => by rw [L.base b hb]; exact hb⟩

theorem LA.md {σ σ' : Store} {h h' : HM L4} {st : List Int} {now : L4} (L : LA σ0 p s v sb nb σ h st now) (M : Md p s v σ σ') (H : At σ' p s v h') : LA σ0 p s v sb nb σ' h' st now := by
  have d := L.dom
  refine ⟨H, ?_, ?_, L.d1, fun b hb => ?_, L.fr⟩
  · rw [M.same sb L.d1.1 L.d1.2.1 L.d1.2.2.1 d.2.2.2.1]; exact L.hst
  · rw [M.same nb L.d1.2.2.2.1 L.d1.2.2.2.2.1 L.d1.2.2.2.2.2.1 d.2.2.2.2.1]; exact L.hnow
  · rw [M.same b (fun e => hb (by rw [e]; exact L.fr.1)) (fun e => hb (by rw [e]; exact L.fr.2.1)) (fun e => hb (by rw [e]; exact L.fr.2.2.1)) (d.2.2.2.2.2 b hb)]; exact L.base b hb

theorem LA.kept {σw σ σ' : Store} {h hw : HM L4} {st stw : List Int} {now noww : L4} (Lw : LA σ0 p s v sb nb σw hw stw noww) (L : LA σ0 p s v sb nb σ h st now) (k : Kept σw σ σ') : LA σ0 p s v sb nb σ' h st now := by
  have d := Lw.dom
  exact ⟨L.home.kept k d.1 d.2.1 d.2.2.1, (k.same sb d.2.2.2.1).trans L.hst, (k.same nb d.2.2.2.2.1).trans L.hnow, L.d1, fun b hb => (k.same b (d.2.2.2.2.2 b hb)).trans (L.base b hb), L.fr⟩

theorem ic_get (l : List Int) (i : Nat) (hi : i < l.length) : (ic l)[i]? = some (.int .i64 (l.getD i 0)) := by
  simp [ic, hi, List.getD]

theorem LA.readSt {σ : Store} {h : HM L4} {st : List Int} {now : L4} (L : LA σ0 p s v sb nb σ h st now) {i : Nat} (hi : i < st.length) : cellAt σ sb (0 + i * 1) = some (.int .i64 (st.getD i 0)) :=
  rd L.hst (by show (ic st)[0 + i * 1]? = _; rw [Nat.zero_add, Nat.mul_one]; exact ic_get _ _ hi)

theorem LA.setSt {σ : Store} {h : HM L4} {st : List Int} {now : L4} (L : LA σ0 p s v sb nb σ h st now) {i : Nat} (hi : i < st.length) (x : Int) {K : Store → Prop}
    (hK : ∀ σ', LA σ0 p s v sb nb σ' h (st.set i x) now → (∀ b, b ≠ sb → σ' b = σ b) → (∀ b, σ b ≠ none → σ' b ≠ none) → K σ') : StoreK σ sb (0 + i * 1) 1 [.int .i64 x] K := by
  have d1 := L.d1
  refine Go.Ev.st L.hst rfl rfl rfl (by show 0 + i * 1 + 1 ≤ (ic st).length; simp [ic]; omega) (hK _ ⟨⟨?_, ?_, ?_, L.home.sv, L.home.sp, L.home.vp⟩, ?_, ?_, d1, ?_, L.fr⟩ ?_ ?_)
  · rw [set_diff d1.1.symm]; exact L.home.hp
  · rw [set_diff d1.2.1.symm]; exact L.home.hs
  · rw [set_diff d1.2.2.1.symm]; exact L.home.hv
  · rw [set_same]
    refine congrArg (fun l => some (Blk.mk 3 l (0, 0))) ?_
    show spliceL (ic st) (0 + i * 1) [.int .i64 x] = _
    rw [Nat.zero_add, Nat.mul_one]; simp [spliceL, ic, List.map_set]
  · rw [set_diff d1.2.2.2.2.2.2]; exact L.hnow
  · intro b hb; rw [set_diff (fun e => hb (by rw [e]; exact L.fr.2.2.2.1))]; exact L.base b hb
  · intro b hb; exact set_diff hb
  · intro b hb
    by_cases e : b = sb
    · subst e; simp
    · rw [set_diff e]; exact hb

theorem asks_len {δ : Type} (z : δ) (h : HM δ) : ∀ r i, (h.asks z r i).length ≤ 2 * r
  | 0, _ => by simp [HM.asks]
  | r + 1, i => by
    unfold HM.asks
    have := asks_len z h r (i + 1)
    simp only [List.length_append]
    split <;> split <;> simp <;> omega

theorem owned_len {δ : Type} (z : δ) (h : HM δ) : (h.owned z).2.length ≤ 1 := by
  unfold HM.owned
  split <;> simp

theorem take_len {δ : Type} (z : δ) (h : HM δ) (m : Msg δ) (W : h.WF) : (h.take z m).2.length ≤ 8 := by
  unfold HM.take
  split
  · simp
  split
  · unfold HM.share
    split
    · simp
    · simp only []
      generalize HM.aloneF _ _ _ _ = t
      cases t <;> simp
  split
  · unfold HM.own
    simp only
    have key : ∀ h2 : HM δ, (if (h2.asks z h.harts.toNat 0).length > 0 then (h2, h2.asks z h.harts.toNat 0) else h2.owned z).2.length ≤ 8 := by
      intro h2
      have := asks_len z h2 h.harts.toNat 0
      have := W.h4
      split
      · show (h2.asks z h.harts.toNat 0).length ≤ 8; omega
      · have := owned_len z h2; omega
    exact key _
  split
  · simp
  split
  · exact Nat.le_trans (owned_len _ _) (by omega)
  split
  · simp only
    split
    · simp [HM.shared]
    · exact Nat.le_trans (owned_len _ _) (by omega)
  · simp

end Go.Ev.Hom
