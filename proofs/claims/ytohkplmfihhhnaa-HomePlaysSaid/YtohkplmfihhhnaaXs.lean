/-
  The lists of the document's home: among, without, copied, sorted.
  Conditions: none.
-/
import Derived.Test.YtohkplmfihhhnaaXm
import Derived.Test.YtohkplmfihhhnaaHs3
import Derived.Test.YtohkplmfihhhnaaFa1
set_option linter.unusedVariables false
namespace Go.Ev.Hom
open Go

abbrev ei : Int → List Value := fun x => [Value.int .i64 x]
abbrev IsI (σ : Store) (a : Option Addr) (n : Nat) (l : List Int) : Prop := IsL ei 1 σ a n l
abbrev OwnI (σ0 σ : Store) (a : Option Addr) (n c : Nat) (l : List Int) : Prop := Own ei 1 σ0 σ a n c l
theorem ei_len (x : Int) : (ei x).length = 1 := rfl
theorem ei_one (x : Int) : (ei x).all one = true := rfl

theorem among_loop {σ : Store} {a : Option Addr} {n c : Nat} {xs : List Int} (h : IsI σ a n xs) (hn : xs.length < 4611686018427387904) (v : Int) {K : Value → Store → Prop} :
    ∀ (r i : Nat), i + r = xs.length → K (.bool ((xs.drop i).contains v)) σ → corralref_Among.l2 K (r + 1) a n c v (i : Int) σ
  | 0, i, hi, hK => by
    refine cond_f (by simp [h.1]; omega) (hopI ?_)
    rw [List.drop_of_length_le (by omega)] at hK
    exact hK
  | r + 1, i, hi, hK => by
    refine cond_t (by simp [h.1]; omega) (h.at1 i rfl (by omega) fun B O hc => ⟨_, hc, ?_⟩)
    rw [List.drop_eq_getElem_cons (by omega)] at hK
    refine cond_i (fun e => ?_) (fun e => hopI ?_)
    · have e' : xs[i] = v := by simpa using e
      rw [e'] at hK; simpa using hK
    · have e' : ¬ xs[i] = v := by simpa using e
      rw [wrap_succ (by omega)]
      refine among_loop h hn v r (i + 1) (by omega) ?_
      have : (xs[i] :: xs.drop (i + 1)).contains v = (xs.drop (i + 1)).contains v := by
        rw [List.contains_cons]
        have : (v == xs[i]) = false := by simp; exact fun h => e' h.symm
        rw [this]; rfl
      rw [this] at hK; exact hK

theorem among_spec {σ : Store} {a : Option Addr} {n c : Nat} {xs : List Int} (h : IsI σ a n xs) (hn : xs.length ≤ 1000) (v : Int) {K : Value → Store → Prop}
    (hK : K (.bool (xs.contains v)) σ) : Spec Pr F.corralref_Among [.slice a n c, .int .i64 v] σ K :=
  corralref_Among.ok (hopI ⟨_, among_loop h (by omega) v xs.length 0 (by omega) (by rw [List.drop_zero]; exact hK)⟩)

/-- What a function answers that makes a list of its own. -/
def OutI (σ : Store) (l : List Int) (K : Value → Store → Prop) : Prop := ∀ σ' a n c, OwnI σ σ' a n c l → Kept σ σ σ' → K (.slice a n c) σ'

theorem IsL.kept {α : Type} {enc : α → List Value} {esz : Nat} {σ0 σ σ' : Store} {a : Option Addr} {n : Nat} {xs : List α} (h0 : IsL enc esz σ0 a n xs) (h : IsL enc esz σ a n xs) (k : Kept σ0 σ σ') : IsL enc esz σ' a n xs := by
  obtain ⟨h1, h2⟩ := h
  refine ⟨h1, fun hn => ?_⟩
  obtain ⟨b, o, kk, e, hb, r⟩ := h2 hn
  obtain ⟨b', o', kk', e', hb', r'⟩ := h0.2 hn
  rw [e] at e'
  injection e' with e'
  injection e' with e1 e2
  subst e1
  exact ⟨b, o, kk, e, by rw [k.same b (by rw [hb']; simp)]; exact hb, r⟩

theorem without_loop {σ0 : Store} {a : Option Addr} {n c : Nat} {xs : List Int} (h0 : IsI σ0 a n xs) (hn : xs.length ≤ 1000) (v : Int) {K : Value → Store → Prop} :
    ∀ (r i : Nat) (oa : Option Addr) (on oc : Nat) (ys : List Int) (σ : Store), i + r = xs.length → IsI σ a n xs → OwnI σ0 σ oa on oc ys → ys.length ≤ i → (∀ b, σ0 b ≠ none → σ b ≠ none) →
      (∀ σ' oa on oc, OwnI σ0 σ' oa on oc (ys ++ wo (xs.drop i) v) → Kept σ0 σ σ' → K (.slice oa on oc) σ') → corralref18_without.l3 K (r + 1) a n c v oa on oc (i : Int) σ
  | 0, i, oa, on, oc, ys, σ, hi, h, O, hy, hd, hK => by
    refine cond_f (by simp [h.1]; omega) (hopI ?_)
    rw [List.drop_of_length_le (by omega)] at hK
    exact hK σ oa on oc (by simpa [wo] using O) (Kept.refl _ _)
  | r + 1, i, oa, on, oc, ys, σ, hi, h, O, hy, hd, hK => by
    refine cond_t (by simp [h.1]; omega) (h.at1 i rfl (by omega) fun B Of hc => ⟨_, hc, ?_⟩)
    rw [List.drop_eq_getElem_cons (by omega)] at hK
    have O1 := O.1
    refine cond_i (fun e => ?_) (fun e => hopI ?_)
    · have e' : (xs[i] != v) = true := e
      refine h.at1 i rfl (by omega) fun B Of hc => ⟨_, hc, Own.app ei_len ei_one O hd rfl (ys := [xs[i]]) rfl rfl (by show (2 * (on + 1) + 768) * 8 ≤ _; omega) (by show on + 1 ≤ _; omega) fun a2 n2 c2 σ2 O2 k2 => hopI ?_⟩
      rw [wrap_succ (by omega)]
      refine without_loop h0 hn v r (i + 1) a2 n2 c2 _ σ2 (by omega) (IsL.kept h0 h k2) O2 (by simp; omega) (fun b hb => k2.dom b (hd b hb)) fun σ3 a3 n3 c3 O3 k3 => hK σ3 a3 n3 c3 ?_ (k2.trans k3)
      unfold wo at O3 ⊢
      rw [List.filter_cons_of_pos (by simpa using e')]
      simpa using O3
    · have e' : (xs[i] != v) = false := e
      rw [wrap_succ (by omega)]
      refine without_loop h0 hn v r (i + 1) oa on oc ys σ (by omega) h O (by omega) hd fun σ3 a3 n3 c3 O3 k3 => hK σ3 a3 n3 c3 ?_ k3
      unfold wo at O3 ⊢
      rw [List.filter_cons_of_neg (by simpa using e')]
      exact O3

theorem without_spec {σ : Store} {a : Option Addr} {n c : Nat} {xs : List Int} (h : IsI σ a n xs) (hn : xs.length ≤ 1000) (v : Int) {K : Value → Store → Prop} (hK : OutI σ (wo xs v) K) :
    Spec Pr F.corralref18_without [.slice a n c, .int .i64 v] σ K :=
  corralref18_without.ok (hopI ⟨_, without_loop h hn v xs.length 0 none 0 0 [] σ (by omega) h (Own.nil _ _ _ _) (by simp) (fun _ h => h) fun σ' oa on oc O k => hK σ' oa on oc (by simpa using O) k⟩)

theorem Own.made {α : Type} {enc : α → List Value} {esz : Nat} {σ : Store} {b : Nat} (hb : σ b = none) {ty : TypeId} {zs : List Value} (hz : zs.length = esz) (c : Nat) : Own enc esz σ (σ.set b ⟨ty, zeroN zs c, (0, 0)⟩) (some ⟨b, 0, none⟩) 0 c [] :=
  ⟨rfl, Nat.zero_le _, fun _ => ⟨b, 0, _, rfl, hb, set_same _ _ _, rfl, by show 0 + c * esz ≤ (zeroN zs c).length; simp [zeroN, hz], by simp⟩⟩

theorem ints_loop {σ0 : Store} {a : Option Addr} {n c : Nat} {xs : List Int} (h0 : IsI σ0 a n xs) (hn : xs.length ≤ 1000) {K : Value → Store → Prop} :
    ∀ (r i : Nat) (oa : Option Addr) (on oc : Nat) (ys : List Int) (σ : Store), i + r = xs.length → IsI σ a n xs → OwnI σ0 σ oa on oc ys → ys.length ≤ i → (∀ b, σ0 b ≠ none → σ b ≠ none) →
      (∀ σ' oa on oc, OwnI σ0 σ' oa on oc (ys ++ xs.drop i) → Kept σ0 σ σ' → K (.slice oa on oc) σ') → corralref_Ints.l3 K (r + 1) a n c oa on oc (i : Int) σ
  | 0, i, oa, on, oc, ys, σ, hi, h, O, hy, hd, hK => by
    refine cond_f (by simp [h.1]; omega) (hopI ?_)
    rw [List.drop_of_length_le (by omega)] at hK
    exact hK σ oa on oc (by simpa using O) (Kept.refl _ _)
  | r + 1, i, oa, on, oc, ys, σ, hi, h, O, hy, hd, hK => by
    have O1 := O.1
    refine cond_t (by simp [h.1]; omega) (h.at1 i rfl (by omega) fun B Of hc => ⟨_, hc, Own.app ei_len ei_one O hd rfl (ys := [xs[i]]) rfl rfl (by show (2 * (on + 1) + 768) * 8 ≤ _; omega) (by show on + 1 ≤ _; omega) fun a2 n2 c2 σ2 O2 k2 => hopI ?_⟩)
    rw [List.drop_eq_getElem_cons (by omega)] at hK
    rw [wrap_succ (by omega)]
    refine ints_loop h0 hn r (i + 1) a2 n2 c2 _ σ2 (by omega) (IsL.kept h0 h k2) O2 (by simp; omega) (fun b hb => k2.dom b (hd b hb)) fun σ3 a3 n3 c3 O3 k3 => hK σ3 a3 n3 c3 ?_ (k2.trans k3)
    simpa using O3

theorem ints_spec {σ : Store} {a : Option Addr} {n c : Nat} {xs : List Int} (h : IsI σ a n xs) (hn : xs.length ≤ 1000) {K : Value → Store → Prop} (hK : OutI σ xs K) :
    Spec Pr F.corralref_Ints [.slice a n c] σ K := by
  have h1 := h.1
  refine corralref_Ints.ok ⟨by omega, by omega, by omega, by omega, fun b hb => hopI ⟨xs.length + 1, ?_⟩⟩
  have k := newKept (σ := σ) ⟨3, zeroN [.int .i64 0] ((n : Nat) : Int).toNat, (0, 0)⟩ hb
  refine ints_loop h hn xs.length 0 _ _ _ [] _ (by omega) (IsL.kept h h k) (Own.made hb rfl _) (by simp) k.dom fun σ' oa on oc O k' => hK σ' oa on oc (by simpa using O) (k.trans k')

/-! ### Sorted -/
theorem ins_at (v : Int) : ∀ (l : List Int) (k : Nat), k ≤ l.length → (∀ j, (hj : j < l.length) → j < k → l[j] < v) → (∀ h : k < l.length, ¬ l[k] < v) →
    ins l v = if h : k < l.length then (if l[k] = v then l else l.take k ++ v :: l.drop k) else l ++ [v]
  | [], k, hk, _, _ => by
    simp at hk; subst hk; rfl
  | a :: l, 0, hk, _, hge => by
    have := hge (by simp)
    simp at this
    unfold ins
    rw [if_neg (by omega), dif_pos (by simp)]
    by_cases e : a = v
    · rw [if_pos (by simpa using e), if_pos (by simpa using e)]
    · rw [if_neg (by simpa using e), if_neg (by simpa using e)]; rfl
  | a :: l, k + 1, hk, hlt, hge => by
    have h0 := hlt 0 (by simp) (by omega)
    simp at h0 hk
    have ih := ins_at v l k hk (fun j hj hjk => by have := hlt (j + 1) (by simp; omega) (by omega); simpa using this) (fun h => by have := hge (by simp; omega); simpa using this)
    unfold ins
    rw [if_pos h0, ih]
    by_cases h : k < l.length
    · rw [dif_pos h, dif_pos (by simp; omega)]
      by_cases e : l[k] = v
      · rw [if_pos e, if_pos (by simpa using e)]
      · rw [if_neg e, if_neg (by simpa using e)]; rfl
    · rw [dif_neg h, dif_neg (by simp; omega)]; rfl

theorem ins_len (v : Int) : ∀ l : List Int, (ins l v).length ≤ l.length + 1
  | [] => by simp [ins]
  | a :: l => by
    unfold ins
    have := ins_len v l
    split
    · simp; omega
    · split <;> simp

theorem IsL.src_take {σ : Store} {a : Option Addr} {n c : Nat} {xs : List Int} (h : IsI σ a n xs) (k : Nat) (hk : k ≤ n) : srcCells σ (slAddr a 0 c 1) (k * 1) = some ((xs.take k).flatMap ei) := by
  have ea : slAddr a 0 c 1 = a := by
    unfold slAddr
    split
    · rfl
    · cases a with
      | none => rfl
      | some x => simp [Option.map, Addr.add]
  rw [ea]
  refine IsL.src (esz := 1) ⟨?_, fun hn => ?_⟩
  · rw [List.length_take, ← h.1]; omega
  · obtain ⟨b, o, kk, e, hb, hl, ht⟩ := h.2 (by omega)
    refine ⟨b, o, kk, e, hb, by omega, ?_⟩
    rw [← flatMap_take ei_len, ← ht, List.take_take, Nat.min_eq_left (by omega)]

theorem IsL.src_drop {σ : Store} {a : Option Addr} {n c : Nat} {xs : List Int} (h : IsI σ a n xs) (hc : n ≤ c) (k : Nat) (hk : k ≤ n) : srcCells σ (slAddr a k c 1) ((n - k) * 1) = some ((xs.drop k).flatMap ei) := by
  have h1 := h.1
  by_cases h0 : n = k
  · rw [h0, Nat.sub_self, List.drop_of_length_le (by omega)]; rfl
  have ea : ∃ b o kk, slAddr a k c 1 = some ⟨b, o + k * 1, none⟩ ∧ σ b = some kk ∧ o + n * 1 ≤ kk.cells.length ∧ (kk.cells.drop o).take (n * 1) = xs.flatMap ei := by
    obtain ⟨b, o, kk, e, hb, hl, ht⟩ := h.2 (by omega)
    refine ⟨b, o, kk, ?_, hb, hl, ht⟩
    subst e
    unfold slAddr
    rw [if_neg (by omega)]
    simp only [Option.map, Addr.add]
    split
    · rename_i h; rw [h]; rfl
    · rfl
  obtain ⟨b, o, kk, e, hb, hl, ht⟩ := ea
  refine IsL.src (esz := 1) ⟨by rw [List.length_drop, ← h1], fun hn => ⟨b, o + k * 1, kk, e, hb, by omega, ?_⟩⟩
  rw [← flatMap_drop ei_len, ← ht, List.drop_take, List.drop_drop]
  congr 1
  omega

theorem sorted_loop {σ0 : Store} {a : Option Addr} {n c : Nat} {xs : List Int} (h0 : IsI σ0 a n xs) (hn : xs.length ≤ 1000) {K : Value → Store → Prop} :
    ∀ (r i : Nat) (oa : Option Addr) (on oc : Nat) (ys : List Int) (σ : Store), i + r = xs.length → IsI σ a n xs → OwnI σ0 σ oa on oc ys → ys.length ≤ i → Kept σ0 σ0 σ →
      (∀ σ' oa on oc, OwnI σ0 σ' oa on oc ((xs.drop i).foldl ins ys) → Kept σ0 σ0 σ' → K (.slice oa on oc) σ') → corralref_Sorted.l3 K (r + 1) a n c oa on oc (i : Int) σ
  | 0, i, oa, on, oc, ys, σ, hi, h, O, hy, hd, hK => by
    refine cond_f (by simp [h.1]; omega) (hopI ?_)
    rw [List.drop_of_length_le (by omega)] at hK
    exact hK σ oa on oc O hd
  | r + 1, i, oa, on, oc, ys, σ, hi, h, O, hy, hd, hK => by
    rw [List.drop_eq_getElem_cons (by omega), List.foldl_cons] at hK
    have O1 := O.1
    have O2 := O.2.1
    have h1 := h.1
    refine cond_t (by simp [h.1]; omega) (hopI ⟨ys.length + 1, ?_⟩)
    -- the next element, with what is sorted so far
    have j4 : ∀ (oa : Option Addr) (on oc : Nat) (zs : List Int) (σ1 : Store), IsI σ1 a n xs → OwnI σ0 σ1 oa on oc zs → zs = ins ys xs[i] → Kept σ0 σ0 σ1 →
        corralref_Sorted.j4 K (corralref_Sorted.l3 K (r + 1)) a n c oa on oc (i : Int) σ1 := by
      intro oa on oc zs σ1 hx O' e k
      subst e
      refine hopI ?_
      rw [wrap_succ (by omega)]
      exact sorted_loop h0 hn r (i + 1) oa on oc _ σ1 (by omega) hx O' (by have := ins_len xs[i] ys; omega) k hK
    have j9 : ∀ k : Nat, k ≤ ys.length → ins ys xs[i] = ys.take k ++ xs[i] :: ys.drop k → corralref_Sorted.j9 K (corralref_Sorted.l3 K (r + 1)) a n c oa on oc (i : Int) (k : Int) σ := by
      intro k hk hins
      have hw : IntKind.wrap .i64 (((on : Nat) : Int) + 1) = ((on + 1 : Nat) : Int) := wrap_succ (by omega)
      refine rq (by simp [okIdx]; omega) ?_
      rw [hw]
      refine ⟨by omega, by omega, by omega, by omega, fun b hb => ?_⟩
      have k1 := newKept (σ := σ) ⟨3, zeroN [.int .i64 0] ((on + 1 : Nat) : Int).toNat, (0, 0)⟩ hb
      have P1 : OwnI σ (σ.set b ⟨3, zeroN [.int .i64 0] ((on + 1 : Nat) : Int).toNat, (0, 0)⟩) (some ⟨b, 0, none⟩) 0 (on + 1) [] := Own.made hb rfl _
      have hy1 := IsL.kept O.isL O.isL k1
      refine ⟨_, IsL.src_take hy1 k (by omega), ?_⟩
      refine Own.app ei_len ei_one P1 k1.dom rfl (ys := ys.take k) rfl (by show k = _; rw [List.length_take]; omega) (by show (2 * (0 + k) + 768) * 8 ≤ _; omega) (by show 0 + k ≤ _; omega) fun a2 n2 c2 σ2 P2 k2 => ?_
      have hx2 := IsL.kept h (IsL.kept h h k1) k2
      have hy2 := IsL.kept O.isL hy1 k2
      have p2 := P2.1
      simp at p2
      refine hx2.at1 i rfl (by omega) fun B Of hc => ⟨_, hc, Own.app ei_len ei_one P2 (fun b hb => k2.dom b (k1.dom b hb)) rfl (ys := [xs[i]]) rfl rfl (by show (2 * (n2 + 1) + 768) * 8 ≤ _; omega) (by show n2 + 1 ≤ _; omega) fun a3 n3 c3 σ3 P3 k3 => ?_⟩
      have hx3 := IsL.kept h hx2 k3
      have hy3 := IsL.kept O.isL hy2 k3
      have p3 := P3.1
      simp at p3
      refine rq (by simp [okIdx]; omega) ⟨_, IsL.src_drop hy3 O2 k (by omega), ?_⟩
      refine Own.app ei_len ei_one P3 (fun b hb => k3.dom b (k2.dom b (k1.dom b hb))) rfl (ys := ys.drop k) rfl (by show on - k = _; rw [List.length_drop]; omega) (by show (2 * (n3 + (on - k)) + 768) * 8 ≤ _; omega) (by show n3 + (on - k) ≤ _; omega) fun a4 n4 c4 σ4 P4 k4 => hopI (j4 a4 n4 c4 _ σ4 (IsL.kept h hx3 k4) (Own.base P4 hd.dom) ?_ ?_)
      · rw [hins]; simp
      · have kk : Kept σ σ σ4 := k1.trans (k2.trans (k3.trans k4))
        exact ⟨fun b hb => (kk.same b (hd.dom b hb)).trans (hd.same b hb), fun b hb => kk.dom b (hd.dom b hb)⟩
    have j8 : ∀ k : Nat, k ≤ ys.length → (∀ j, (hj : j < ys.length) → j < k → ys[j] < xs[i]) → (∀ h : k < ys.length, ¬ ys[k] < xs[i]) →
        corralref_Sorted.j8 K (corralref_Sorted.l3 K (r + 1)) a n c oa on oc (i : Int) (k : Int) σ := by
      intro k hk hlt hge
      have hins := ins_at xs[i] ys k hk hlt hge
      refine cond_i (fun e => O.isL.at1 k rfl (by simp at e; omega) fun B Of hc => ⟨_, hc, h.at1 i rfl (by omega) fun B2 Of2 hc2 => ⟨_, hc2, ?_⟩⟩) (fun e => hopI (j9 k hk ?_))
      · have hkl : k < ys.length := by simp at e; omega
        rw [dif_pos hkl] at hins
        refine cond_i (fun e2 => hopI (j4 oa on oc ys σ h O ?_ hd)) (fun e2 => hopI (j9 k hk ?_))
        · rw [if_pos (by simpa using e2)] at hins; exact hins.symm
        · rw [if_neg (by simpa using e2)] at hins; exact hins
      · have hkl : k = ys.length := by simp at e; omega
        rw [dif_neg (by omega)] at hins
        rw [hins, hkl, List.take_of_length_le (Nat.le_refl _), List.drop_of_length_le (Nat.le_refl _)]
    -- the inner loop
    have inner : ∀ (rr k : Nat), k + rr = ys.length → (∀ j, (hj : j < ys.length) → j < k → ys[j] < xs[i]) → corralref_Sorted.l6 K (corralref_Sorted.l3 K (r + 1)) (rr + 1) a n c oa on oc (i : Int) (k : Int) σ := by
      intro rr
      induction rr with
      | zero =>
        intro k hk hlt
        exact cond_f (by simp; omega) (hopI (j8 k (by omega) hlt (fun h => by omega)))
      | succ rr ih =>
        intro k hk hlt
        refine cond_t (by simp; omega) (O.isL.at1 k rfl (by omega) fun B Of hc => ⟨_, hc, h.at1 i rfl (by omega) fun B2 Of2 hc2 => ⟨_, hc2, ?_⟩⟩)
        refine cond_i (fun e => hopI ?_) (fun e => hopI (j8 k (by omega) hlt (fun _ => by simpa using e)))
        rw [wrap_succ (by omega)]
        refine ih (k + 1) (by omega) fun j hj hjk => ?_
        by_cases ej : j = k
        · subst ej; simpa using e
        · exact hlt j hj (by omega)
    exact inner ys.length 0 (by omega) (fun j _ h => by omega)

theorem sorted_spec {σ : Store} {a : Option Addr} {n c : Nat} {xs : List Int} (h : IsI σ a n xs) (hn : xs.length ≤ 1000) {K : Value → Store → Prop} (hK : OutI σ (sortF xs) K) :
    Spec Pr F.corralref_Sorted [.slice a n c] σ K :=
  corralref_Sorted.ok (hopI ⟨_, sorted_loop h hn xs.length 0 none 0 0 [] σ (by omega) h (Own.nil _ _ _ _) (by simp) (Kept.refl _ _) fun σ' oa on oc O k => hK σ' oa on oc (by simpa [sortF] using O) k⟩)

end Go.Ev.Hom
