/-
  IsaNames: the loop over the document's names keeps to a plain one.
  Conditions: none.
-/
import Derived.Test.YtohkplmfihhhnaaDoorV6
set_option linter.unusedVariables false
namespace Go.Ev
open Go

theorem cell_in {σ : Store} {b o n : Nat} {l : List Value} (h : cellsAt σ b o n = some l) {k : Nat} {v : Value} (hk : l[k]? = some v) : cellAt σ b (o + k) = some v := by
  unfold cellsAt at h
  unfold cellAt
  cases e : σ b with
  | none => rw [e] at h; cases h
  | some c =>
    rw [e] at h
    simp only at h ⊢
    split at h
    · rename_i hl
      rw [Option.some.injEq] at h
      subst h
      rw [List.getElem?_take] at hk
      split at hk
      · rw [List.getElem?_drop] at hk; exact hk
      · cases hk
    · cases h

def wantF (name : ByteArray) : List RRow → Int → Int
  | [], w => w
  | r :: l, w => wantF name l (bif r.name.toList == name.toList then r.op else w)

def corrallaw3_IsaNames.v8 (op : Int) (name : ByteArray) (ok is : Bool) : Bool := corrallaw3_IsaNames.v15 op name ok is (wantF name rrows 0)

theorem names_loop {σ : Store} {E : Nat → Nat × Nat} (hE : Errs σ E) {a : Option Addr} {n c : Nat} {xs : List RRow} (h : IsL RRow.cells 14 σ a n xs) (hn : xs.length ≤ 69) (op : Int) (name : ByteArray) (ok is : Bool) {K : Value → Store → Prop} (hm : KMono K) :
    ∀ (r i : Nat) (want : Int), i + r = xs.length → K (.bool (corrallaw3_IsaNames.v15 op name ok is (wantF name (xs.drop i) want))) σ →
      corrallaw3_IsaNames.l11 K (r + 1) op name ok is want a n c (i : Int) σ
  | 0, i, want, hi, hK => by
    refine cond_f (by simp [h.1]; omega) (hopI ?_)
    rw [List.drop_of_length_le (by omega)] at hK
    exact corrallaw3_IsaNames.j15_v hE hm (fun r => K (.bool r) σ) op name ok is want (fun _ h => h) hK
  | r + 1, i, want, hi, hK => by
    rw [List.drop_eq_getElem_cons (by omega)] at hK
    refine corrallaw3_IsaNames.b11_v hE hm (fun s => s = corrallaw3_IsaNames.bv11 op name ok is want a n c i xs[i].name xs[i].op) op name ok is want a n c i xs[i].name xs[i].op (fun s hs => ?_) (fun s hs => ?_) (by simp [h.1]; omega)
      (fun Body hB => h.at RRow.cells_len i rfl (by omega) fun B O hc => hB B O ?_) (fun Body hB => h.at RRow.cells_len i rfl (by omega) fun B O hc => hB B O ?_) rfl
    · unfold corrallaw3_IsaNames.bv11 at hs
      cases hb : (xs[i].name.toList == name.toList) <;> rw [hb] at hs <;> cases hs
    · have e : s = (op, name, ok, is, (bif xs[i].name.toList == name.toList then xs[i].op else want), IntKind.wrap .i64 ((i : Int) + 1)) := by
        unfold corrallaw3_IsaNames.bv11 at hs
        cases hb : (xs[i].name.toList == name.toList) <;> rw [hb] at hs <;> cases hs <;> rfl
      subst e
      show corrallaw3_IsaNames.l11 K (r + 1) op name ok is _ a n c (IntKind.wrap .i64 ((i : Int) + 1)) σ
      rw [wrap_succ (by omega)]
      exact names_loop hE h hn op name ok is hm r (i + 1) _ (by omega) hK
    · exact cell_in hc rfl
    · exact cell_in hc (k := 0) rfl

theorem corrallaw3_IsaNames.j8_v {K : Value → Store → Prop} {σ : Store} {E : Nat → Nat × Nat} (hE : Errs σ E) (hm : KMono K) (F : Bool → Prop) (op : Int) (name : ByteArray) (ok is : Bool) (hk : ∀ r, F r → K (.bool r) σ) (hF : F (corrallaw3_IsaNames.v8 op name ok is)) :
    corrallaw3_IsaNames.j8 K op name ok is σ := by
  unfold corrallaw3_IsaNames.j8
  refine Rows_spec σ fun a σ' hl hle => ⟨_, _, _, rfl, hopI ⟨70, ?_⟩⟩
  exact names_loop (c := 69) (hE.le hle) hl (by decide) op name ok is hm 69 0 0 (by rfl) (hm _ _ _ hle (hk _ hF))
end Go.Ev
