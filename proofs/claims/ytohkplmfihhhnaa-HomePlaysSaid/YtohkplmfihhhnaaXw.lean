/-
  HomePlays: what the loop asks of the two homes.
  Conditions: none.
-/
import Derived.Test.YtohkplmfihhhnaaXs3
import Derived.Test.YtohkplmfihhhnaaHw3
set_option linter.unusedVariables false
namespace Go.Ev.Hom
open Go

abbrev eb : Bool → List Value := fun x => [Value.bool x]
theorem eb_len (x : Bool) : (eb x).length = 1 := rfl
theorem eb_one (x : Bool) : (eb x).all one = true := rfl

theorem clone_spec {σ : Store} {b0 o0 n c : Nat} {xs : List Bool} (h : IsL eb 1 σ (some ⟨b0, o0, none⟩) n xs) (hn : xs.length ≤ 1000) {K : Value → Store → Prop}
    (hK : ∀ σ' a n c, Kept σ σ σ' → K (.slice a n c) σ') : Spec Pr F.slices_Clone [.slice (some ⟨b0, o0, none⟩) n c] σ K := by
  refine slices_Clone.ok (cond_f rfl fun b hb => ?_)
  have k := newKept (σ := σ) ⟨4, [], (0, 0)⟩ hb
  have O : Own eb 1 σ (σ.set b ⟨4, [], (0, 0)⟩) (some ⟨b, 0, none⟩) 0 0 [] := ⟨rfl, Nat.le_refl _, fun h => (h rfl).elim⟩
  have h1 := h.1
  exact ⟨_, (IsL.kept h h k).src, Own.app eb_len eb_one O k.dom rfl (ys := xs) rfl h1 (by omega) (by omega) fun a' n' c' σ' O' k' => hK σ' a' n' c' (k.trans k')⟩

theorem spliceL_whole (vs cs : List Value) (h : vs.length = cs.length) : spliceL cs 0 vs = vs := by
  rw [spliceL_eq _ _ _ (by omega)]; simp [h]

theorem hclone_spec {σ : Store} {p s v : Nat} {h : HM L4} (H : At σ p s v h) (h1 : h.sh.length ≤ 4) (h2 : h.inv.length ≤ 4) {K : Value → Store → Prop}
    (hK : ∀ σ' c k, Kept σ σ σ' → σ c = none → σ' c = some k → k.cells[6]? = some (.int .i64 h.owner) → K (.pointer (some ⟨c, 0, none⟩)) σ') : Spec Pr F.home_Home_Clone [.pointer (some ⟨p, 0, none⟩)] σ K := by
  refine home_Home_Clone.ok ⟨h.cells s v h.sh.length h.inv.length, rds H.hp (by show 24 ≤ 24; omega) rfl, fun c hc => ?_⟩
  refine Go.Ev.st (set_same _ _ _) rfl rfl rfl (by show 24 ≤ 24; omega) ?_
  rw [set_twice, spliceL_whole (h.cells s v h.sh.length h.inv.length) _ (by rfl)]
  have k1 := newKept (σ := σ) ⟨51, h.cells s v h.sh.length h.inv.length, (0, 0)⟩ hc
  have H1 : At (σ.set c ⟨51, h.cells s v h.sh.length h.inv.length, (0, 0)⟩) p s v h := H.kept' k1
  have hc1 : (σ.set c ⟨51, h.cells s v h.sh.length h.inv.length, (0, 0)⟩) c = some ⟨51, h.cells s v h.sh.length h.inv.length, (0, 0)⟩ := set_same _ _ _
  generalize σ.set c ⟨51, h.cells s v h.sh.length h.inv.length, (0, 0)⟩ = σ1 at k1 H1 hc1 ⊢
  refine ⟨_, _, _, rd H1.hp rfl, _, _, _, rd H1.hp rfl, clone_spec H1.isS (by omega) fun σ2 a n cc k2 => ⟨_, _, _, rfl, ?_⟩⟩
  have H2 := H1.kept' k2
  refine ⟨rds H2.hp (by show 13 ≤ 24; omega) rfl, clone_spec H2.isV (by omega) fun σ3 a3 n3 cc3 k3 => ⟨_, _, _, rfl, ?_⟩⟩
  have hc2 := (k2.same c (by rw [hc1]; simp)).trans hc1
  have hc3 := (k3.same c (by rw [hc2]; simp)).trans hc2
  refine Go.Ev.st hc3 rfl rfl rfl (by show 8 ≤ 24; omega) ?_
  have h6 : (spliceL (h.cells s v h.sh.length h.inv.length) 7 [Value.slice a n cc])[6]? = some (.int .i64 h.owner) := rfl
  have h24 : (spliceL (h.cells s v h.sh.length h.inv.length) 7 [Value.slice a n cc]).length = 24 := rfl
  show StoreK (σ3.set c ⟨51, spliceL (h.cells s v h.sh.length h.inv.length) 7 [Value.slice a n cc], (0, 0)⟩) c 12 1 _ _
  generalize spliceL (h.cells s v h.sh.length h.inv.length) 7 [Value.slice a n cc] = cs at h6 h24 ⊢
  refine Go.Ev.st (set_same _ _ _) rfl rfl rfl (by show 12 + 1 ≤ cs.length; omega) ?_
  rw [set_twice]
  have h6' : (spliceL cs 12 [Value.slice a3 n3 cc3])[6]? = some (.int .i64 h.owner) := by
    show (cs.set 12 _)[6]? = _
    rw [List.getElem?_set_ne (by omega)]; exact h6
  show K _ (σ3.set c ⟨51, spliceL cs 12 [Value.slice a3 n3 cc3], (0, 0)⟩)
  generalize spliceL cs 12 [Value.slice a3 n3 cc3] = cs2 at h6' ⊢
  refine hK _ c _ ⟨fun b hb => ?_, fun b hb => ?_⟩ hc (set_same _ _ _) h6'
  · have : b ≠ c := fun e => hb (by rw [e]; exact hc)
    rw [set_diff this, k3.same b (k2.dom b (k1.dom b hb)), k2.same b (k1.dom b hb), k1.same b hb]
  · have : b ≠ c := fun e => hb (by rw [e]; exact hc)
    rw [set_diff this]; exact k3.dom b (k2.dom b (k1.dom b hb))

theorem sharers_loop {σ0 : Store} {a : Option Addr} {n c : Nat} {xs : List Bool} (h0 : IsL eb 1 σ0 a n xs) (hn : xs.length ≤ 1000) {K : Value → Store → Prop} :
    ∀ (r i : Nat) (oa : Option Addr) (on oc : Nat) (ys : List Int) (σ : Store), i + r = xs.length → IsL eb 1 σ a n xs → OwnI σ0 σ oa on oc ys → ys.length ≤ i → (∀ b, σ0 b ≠ none → σ b ≠ none) →
      (∀ σ' oa on oc, OwnI σ0 σ' oa on oc (ys ++ tIdx i (xs.drop i)) → Kept σ0 σ σ' → K (.slice oa on oc) σ') → home_Home_Sharers.l3 K (r + 1) oa on oc a n c ((n : Nat) : Int) (i : Int) σ
  | 0, i, oa, on, oc, ys, σ, hi, h, O, hy, hd, hK => by
    refine cond_f (by simp [h.1]; omega) (hopI ?_)
    rw [List.drop_of_length_le (by omega)] at hK
    exact hK σ oa on oc (by simpa [tIdx] using O) (Kept.refl _ _)
  | r + 1, i, oa, on, oc, ys, σ, hi, h, O, hy, hd, hK => by
    have O1 := O.1
    rw [List.drop_eq_getElem_cons (by omega)] at hK
    unfold tIdx at hK
    refine cond_t (by simp [h.1]; omega) (h.at1 i rfl (by omega) fun B Of hc => ⟨_, hc, cond_i (fun e => ?_) (fun e => hopI ?_)⟩)
    · rw [if_pos e] at hK
      refine Own.app ei_len ei_one O hd rfl (ys := [(i : Int)]) rfl rfl (by show (2 * (on + 1) + 768) * 8 ≤ _; omega) (by show on + 1 ≤ _; omega) fun a2 n2 c2 σ2 O2 k2 => hopI ?_
      rw [wrap_succ (by omega)]
      refine sharers_loop h0 hn r (i + 1) a2 n2 c2 _ σ2 (by omega) (IsL.kept h0 h k2) O2 (by simp; omega) (fun b hb => k2.dom b (hd b hb)) fun σ3 a3 n3 c3 O3 k3 => hK σ3 a3 n3 c3 ?_ (k2.trans k3)
      simpa using O3
    · rw [if_neg (by rw [e]; simp)] at hK
      rw [wrap_succ (by omega)]
      exact sharers_loop h0 hn r (i + 1) oa on oc ys σ (by omega) h O (by omega) hd hK

theorem sharers_spec {σ : Store} {p s v : Nat} {h : HM L4} (H : At σ p s v h) (h1 : h.sh.length ≤ 4) {K : Value → Store → Prop} (hK : OutI σ (tIdx 0 h.sh) K) :
    Spec Pr F.home_Home_Sharers [.pointer (some ⟨p, 0, none⟩)] σ K :=
  home_Home_Sharers.ok ⟨_, _, _, rd H.hp rfl, hopI ⟨_, sharers_loop (c := h.sh.length) H.isS (by omega) h.sh.length 0 none 0 0 [] σ (by omega) H.isS (Own.nil _ _ _ _) (by simp) (fun _ h => h) fun σ' oa on oc O k => hK σ' oa on oc (by simpa using O) k⟩⟩

theorem sameInts_spec {σ : Store} {a b : Option Addr} {n n' c c' : Nat} {xs : List Int} (h : IsI σ a n xs) (h' : IsI σ b n' xs) (hn : xs.length ≤ 1000) {K : Value → Store → Prop} (hK : K (.bool true) σ) :
    Spec Pr F.corralref_SameInts [.slice a n c, .slice b n' c'] σ K := by
  have loop : ∀ (r i : Nat), i + r = xs.length → corralref_SameInts.l4 K (r + 1) a n c b n' c' (i : Int) σ := by
    intro r
    induction r with
    | zero => intro i hi; exact cond_f (by simp [h.1]; omega) (hopI hK)
    | succ r ih =>
      intro i hi
      refine cond_t (by simp [h.1]; omega) (h.at1 i rfl (by omega) fun B O hc => ⟨_, hc, h'.at1 i rfl (by omega) fun B2 O2 hc2 => ⟨_, hc2, cond_f (by simp) (hopI ?_)⟩⟩)
      rw [wrap_succ (by omega)]
      exact ih (i + 1) (by omega)
  exact corralref_SameInts.ok (cond_f (by rw [h.1, h'.1]; simp) (hopI ⟨_, loop xs.length 0 (by omega)⟩))

theorem sameMsg_spec {σ : Store} (m : Msg L4) {K : Value → Store → Prop} (hK : K (.bool true) σ) : Spec Pr F.corralref_SameMsg [m.agg, m.agg] σ K := by
  refine corralref_SameMsg.ok (same_spec m.data m.data ⟨_, rfl, ?_⟩)
  rw [decide_eq_true rfl]
  refine cond_t rfl (cond_t (by simp) (cond_t (by simp) (cond_t (by simp) (cond_t (by simp) (cond_t (by simp) (cond_t (by simp) ?_))))))
  rw [show (m.alone == m.alone) = true by simp]
  exact hK

theorem sameMsgs_spec {σ : Store} {a b : Option Addr} {n n' c c' : Nat} {xs : List (Msg L4)} (h : IsL Msg.cells 11 σ a n xs) (h' : IsL Msg.cells 11 σ b n' xs) (hn : xs.length ≤ 1000) {K : Value → Store → Prop} (hK : K (.bool true) σ) :
    Spec Pr F.corralref_SameMsgs [.slice a n c, .slice b n' c'] σ K := by
  have loop : ∀ (r i : Nat), i + r = xs.length → corralref_SameMsgs.l4 K (r + 1) a n c b n' c' (i : Int) σ := by
    intro r
    induction r with
    | zero => intro i hi; exact cond_f (by simp [h.1]; omega) (hopI hK)
    | succ r ih =>
      intro i hi
      refine cond_t (by simp [h.1]; omega) (IsL.at Msg.cells_length h i rfl (by omega) fun B O hc => ⟨xs[i].kind, xs[i].line, xs[i].frm, xs[i].to, xs[i].data.a, xs[i].data.b, xs[i].data.c, xs[i].data.d, xs[i].has, xs[i].dirty, xs[i].alone, hc, IsL.at Msg.cells_length h' i rfl (by omega) fun B2 O2 hc2 => ⟨xs[i].kind, xs[i].line, xs[i].frm, xs[i].to, xs[i].data.a, xs[i].data.b, xs[i].data.c, xs[i].data.d, xs[i].has, xs[i].dirty, xs[i].alone, hc2, sameMsg_spec xs[i] ⟨_, rfl, cond_f rfl (hopI ?_)⟩⟩⟩)
      rw [wrap_succ (by omega)]
      exact ih (i + 1) (by omega)
  exact corralref_SameMsgs.ok (cond_f (by rw [h.1, h'.1]; simp) (hopI ⟨_, loop xs.length 0 (by omega)⟩))

theorem number_spec {σ : Store} (n : Int) {K : Value → Store → Prop} (hK : ∀ v : Int, 0 ≤ v → v < 4 → K (.int .i64 v) σ) : Spec Pr F.corralworld_Number [.int .i64 n, .int .i64 4] σ K := by
  refine corralworld_Number.ok (rq rfl (rq rfl (hK _ ?_ ?_)))
  · have h1 : -4 < Int.tmod n 4 := by have := Int.tmod_lt_of_pos n (b := 4) (by omega); have := Int.lt_tmod_of_pos n (b := 4) (by omega); omega
    have h2 : Int.tmod n 4 < 4 := Int.tmod_lt_of_pos n (by omega)
    rw [wrap_id (by omega) (by omega)]
    exact Int.tmod_nonneg _ (by omega)
  · exact Int.tmod_lt_of_pos _ (by omega)

end Go.Ev.Hom
