/-
  The cache: Len (with the library's sort of few entries), and the helpers on lists of numbers.
  Conditions: none.
-/
import Derived.Test.YtohkplmfihhhnaaDoorCa4
import Derived.Test.YtohkplmfihhhnaaDoorFl
set_option linter.unusedVariables false
set_option linter.unusedSimpArgs false
set_option maxRecDepth 100000
namespace Go.Ev
open Go

/-! ### slices.SortFunc of at most 12 entries: it ends, and writes into its own block alone -/
theorem Own.put {σ0 σ : Store} {a : Option Addr} {n c : Nat} {xs : List Ent} (h : Own Ent.cells 6 σ0 σ a n c xs) {t : Int} (j : Nat) (ht : t = (j : Int)) (hj : j < xs.length) (e : Ent) {K : Store → Prop}
    (hK : ∀ σ', Own Ent.cells 6 σ0 σ' a n c (xs.set j e) → Kept σ0 σ σ' → K σ') : Req (decide (0 ≤ t) && decide (t < ((n : Nat) : Int))) (PtrNN a fun B O => StoreK σ B (O + t.toNat * 6) 6 e.cells K) := by
  subst ht
  obtain ⟨h1, h2, h3⟩ := h
  obtain ⟨b, o, ⟨ty, cs, fz⟩, rfl, hs0, hb, hf, hl, hx⟩ := h3 (by omega)
  obtain rfl : fz = (0, 0) := hf
  dsimp only at hl hx
  have hjc : j + 1 ≤ c := by omega
  refine rq (by simp; omega) ⟨rfl, rfl, _, hb, by show o + j * 6 + 6 ≤ cs.length; omega, rfl, hK _ ⟨by rw [List.length_set]; exact h1, h2, fun _ => ⟨b, o, _, rfl, hs0, set_eq, rfl, ?_, ?_⟩⟩ ⟨fun i hi => ?_, fun i hi => ?_⟩⟩
  · dsimp only; rw [spliceL_length]; omega
  · show ((spliceL cs (o + j * 6) e.cells).drop o).take (n * 6) = _
    have hlen : (e.cells).length = 6 := rfl
    rw [spliceL_eq _ _ _ (by rw [hlen]; omega), List.append_assoc, List.drop_append_of_le_length (by simp; omega), List.drop_take, Nat.add_sub_cancel_left, List.set_eq_take_append_cons_drop, if_pos hj, List.flatMap_append, List.flatMap_cons, ← flatMap_take entLen, ← flatMap_drop entLen, ← hx,
      List.take_append, List.take_append]
    have l1 : (List.take (j * 6) (List.drop o cs)).length = j * 6 := by rw [List.length_take, List.length_drop]; omega
    rw [l1, hlen, List.take_take, List.take_take, Nat.min_eq_right (by omega), Nat.min_eq_left (by omega), List.take_of_length_le (l := e.cells) (by rw [hlen]; omega), List.drop_take, List.drop_drop]
    rw [show o + j * 6 + 6 = o + (j + 1) * 6 by omega, show n * 6 - j * 6 - 6 = n * 6 - (j + 1) * 6 by omega]
  · exact set_diff (by rintro rfl; exact hi hs0)
  · by_cases e : i = b
    · subst e; rw [set_eq]; simp
    · rw [set_diff e]; exact hi

theorem bits_small {σ : Store} (n : Nat) (hn : n < 256) {K : Value → Store → Prop} (hK : ∀ t : Int, K (.int .i64 t) σ) : Spec Pr F.bits_Len [.int .u64 (IntKind.wrap .u64 ((n : Nat) : Int))] σ K := by
  have hw : IntKind.wrap .u64 ((n : Nat) : Int) = (n : Int) := by rw [wrap_u64_lit]; omega
  rw [hw]
  refine bits_Len.ok (bits_Len64.ok (cond_f (by simp; omega) (hopI (cond_f (by simp; omega) (hopI (cond_f (by simp; omega) (hopI (rq ?_ ⟨_, rfl, hK _⟩))))))))
  have hw8 : IntKind.wrap .u8 ((n : Nat) : Int) = (n : Int) := by rw [wrap_u8_eq]; omega
  rw [hw8, Bool.and_eq_true]
  refine ⟨decide_eq_true (by omega), decide_eq_true (Int.lt_of_lt_of_le (show (n : Int) < 256 by omega) ?_)⟩
  show (256 : Int) ≤ ((256 : Nat) : Int)
  decide

theorem ins4 {σ0 : Store} {A : Option Addr} {N C : Nat} (b : Int) {K : Value → Store → Prop} {rr1 : slices_insertionSortCmpFunc.R1} (i : Nat) (hi : i < N) (hN : N < 1000)
    (hr : ∀ xs σ, Own Ent.cells 6 σ0 σ A N C xs → σ0.le σ → rr1 A N C 0 b ((i + 1 : Nat) : Int) σ) (j : Nat) :
    ∀ (xs : List Ent) (σ : Store), j ≤ i → Own Ent.cells 6 σ0 σ A N C xs → σ0.le σ → slices_insertionSortCmpFunc.l4 K rr1 (j + 1) A N C 0 b (i : Int) (j : Int) σ := by
  have fin : ∀ xs σ, Own Ent.cells 6 σ0 σ A N C xs → σ0.le σ → Hop (slices_insertionSortCmpFunc.T 2) (slices_insertionSortCmpFunc.T 2) (slices_insertionSortCmpFunc.j2 K rr1 A N C 0 b (i : Int) σ) := by
    intro xs σ ho hl
    refine hopI (hopI ?_)
    rw [wrap_succ (by omega)]
    exact hr xs σ ho hl
  induction j with
  | zero =>
    intro xs σ hj ho hl
    exact fin xs σ ho hl
  | succ j ih =>
    intro xs σ hj ho hl
    have hx := ho.1
    have hw : IntKind.wrap .i64 (((j + 1 : Nat) : Int) - 1) = (j : Int) := by rw [wrap_id (by omega) (by omega)]; omega
    refine cond_t (by simp) (ho.isL.at entLen (j + 1) rfl (by omega) fun B O hc => ⟨_, _, _, _, _, _, hc, ?_⟩)
    rw [hw]
    refine ho.isL.at entLen j rfl (by omega) fun B O hc => ⟨_, _, _, _, _, _, hc, ?_⟩
    refine cache_Cache_All_1.ok ⟨_, rfl, cond_i (fun _ => hopI ?_) (fun _ => fin xs σ ho hl)⟩
    unfold slices_insertionSortCmpFunc.j6
    rw [hw]
    refine ho.isL.at entLen j rfl (by omega) fun B O hc => ⟨_, _, _, _, _, _, hc, ?_⟩
    refine ho.isL.at entLen (j + 1) rfl (by omega) fun B O hc => ⟨_, _, _, _, _, _, hc, ?_⟩
    refine ho.put (j + 1) rfl (by omega) (xs[j]'(by omega)) fun σ1 ho1 hk1 => ?_
    refine ho1.put j rfl (by rw [List.length_set]; omega) (xs[j + 1]'(by omega)) fun σ2 ho2 hk2 => hopI ?_
    exact ih _ σ2 (by omega) ho2 (hk2.le (hk1.le hl))

theorem sort_few {σ0 σ : Store} {A : Option Addr} {N C : Nat} {xs : List Ent} (ho : Own Ent.cells 6 σ0 σ A N C xs) (hl : σ0.le σ) (hN : xs.length ≤ 12) {K : Value → Store → Prop} (hK : ∀ σ', σ0.le σ' → K (.tuple #[]) σ') :
    Spec Pr F.slices_SortFunc [.slice A N C, .func (.func F.cache_Cache_All_1) #[] #[]] σ K := by
  have hx := ho.1
  refine slices_SortFunc.ok (bits_small N (by omega) fun t => ⟨_, rfl, slices_pdqsortCmpFunc.ok (hopI ⟨1, ?_⟩)⟩)
  have hw : IntKind.wrap .i64 ((N : Int) - 0) = (N : Int) := by rw [Int.sub_zero, wrap_id (by omega) (by omega)]
  unfold slices_pdqsortCmpFunc.l2 slices_pdqsortCmpFunc.b2
  rw [hw]
  refine cond_t (by simp; omega) (slices_insertionSortCmpFunc.ok (hopI ⟨N + 1, ?_⟩))
  have loop : ∀ (r i : Nat) (xs : List Ent) (σ : Store), N ≤ i + r → Own Ent.cells 6 σ0 σ A N C xs → σ0.le σ →
      slices_insertionSortCmpFunc.l1 (fun v σ_ => v = .tuple #[] ∧ (Value.tuple #[] : Value) = .tuple #[] ∧ K (.tuple #[]) σ_) (r + 1) A N C 0 ((N : Nat) : Int) (i : Int) σ := by
    intro r
    induction r with
    | zero =>
      intro i xs σ hi ho hl
      exact cond_f (by simp; omega) ⟨rfl, rfl, hK σ hl⟩
    | succ r ih =>
      intro i xs σ hi ho hl
      refine cond_i (fun e => hopI ⟨i + 1, ?_⟩) (fun e => ⟨rfl, rfl, hK σ hl⟩)
      have e : i < N := by simpa using e
      exact ins4 _ i e (by omega) (fun xs σ ho hl => ih (i + 1) xs σ (by omega) ho hl) i xs σ (Nat.le_refl _) ho hl
  have h1 : IntKind.wrap .i64 ((0 : Int) + 1) = ((1 : Nat) : Int) := by decide
  rw [h1]
  exact loop N 1 xs σ (by omega) ho hl

theorem hdrs_isL {σ : Store} {sb : Nat} {ps : List SetH} {ty : TypeId} (hs : σ sb = some ⟨ty, ps.map hdr, (0, 0)⟩) : IsL hC 1 σ (some ⟨sb, 0, none⟩) ps.length ps := by
  have e : ps.flatMap hC = ps.map hdr := by
    induction ps with
    | nil => rfl
    | cons q l ih => rw [List.flatMap_cons, List.map_cons]; show hdr q :: l.flatMap hC = _; rw [show l.flatMap hC = l.map hdr from by clear hs ih; induction l with | nil => rfl | cons x l ih => rw [List.flatMap_cons, List.map_cons, ih]; rfl]
  refine ⟨rfl, fun _ => ⟨sb, 0, _, rfl, hs, by dsimp only; rw [List.length_map]; omega, ?_⟩⟩
  dsimp only
  rw [e, List.drop_zero, List.take_of_length_le (by rw [List.length_map]; omega)]

def totM (M : Sets) : Nat := (M.map List.length).sum
theorem tot_sets : ∀ ps : List SetH, tot ps = totM (sets ps)
  | [] => rfl
  | q :: l => by
    unfold tot totM sets
    rw [tot_sets l]
    simp [totM, sets]

theorem flat_len : ∀ ps : List SetH, (ps.flatMap (·.2)).length = tot ps
  | [] => rfl
  | q :: l => by rw [List.flatMap_cons, List.length_append, flat_len l]; rfl

theorem len_pur {σ : Store} {p sb : Nat} {ways : Int} {ps : List SetH} (h : CAt σ p sb ways ps) (ht : totM (sets ps) ≤ 12) :
    Pur Pr F.cache_Cache_Len [.pointer (some ⟨p, 0, none⟩)] σ (.int .i64 (totM (sets ps) : Int)) := fun K hK => by
  obtain ⟨ty, hs⟩ := h.hs
  obtain ⟨kp, hkp, hc⟩ := h.hp
  rw [← tot_sets] at ht hK
  have hle := h.le
  refine Spec.shrink (cache_Cache_Len.ok (cache_Cache_All.ok ⟨_, _, _, rd hkp (by rw [hc]; rfl), concat_spec (hdrs_isL hs) (fun q hq => (h.el q hq).l) (by omega) (by omega) fun a' n' c' σ' ho hl => ⟨_, _, _, rfl, ?_⟩⟩))
  have hn := ho.1
  rw [flat_len] at hn
  refine sort_few ho hl (by rw [flat_len]; exact ht) fun σ2 hl2 => ⟨rfl, _, _, _, rfl, σ, hl2, ?_⟩
  rw [hn]; exact hK

/-! ### The helpers on numbers -/
theorem among_loop {σ : Store} {a : Option Addr} {n c : Nat} {xs : List Int} (h : IsL iC 1 σ a n xs) (hn : xs.length < 4611686018427387904) (v : Int) {K : Value → Store → Prop} :
    ∀ (r i : Nat), i + r = xs.length → K (.bool ((xs.drop i).contains v)) σ → corralref_Among.l2 K (r + 1) a n c v (i : Int) σ
  | 0, i, hi, hK => by
    rw [List.drop_of_length_le (by omega)] at hK
    exact cond_f (by simp [h.1]; omega) (hopI hK)
  | r + 1, i, hi, hK => by
    rw [List.drop_eq_getElem_cons (by omega), List.contains_cons] at hK
    refine cond_t (by simp [h.1]; omega) (h.at1 (e := fun x => Value.int .i64 x) i rfl (by omega) fun B O hc => ⟨_, hc, ?_⟩)
    have e' : ∀ x : Int, (v == x) = (x == v) := fun x => Bool.eq_iff_iff.2 (by simp only [beq_iff_eq]; exact eq_comm)
    rw [e'] at hK
    refine cond_i (fun e => ?_) (fun e => hopI ?_)
    · rw [e, Bool.true_or] at hK; exact hK
    · rw [e, Bool.false_or] at hK
      show corralref_Among.l2 K (r + 1) a n c v _ σ
      rw [wrap_succ (by omega)]
      exact among_loop h hn v r (i + 1) (by omega) hK

theorem among_pur {σ : Store} {a : Option Addr} {n c : Nat} {xs : List Int} (h : IsL iC 1 σ a n xs) (hn : xs.length < 4611686018427387904) (v : Int) :
    Pur Pr F.corralref_Among [.slice a n c, .int .i64 v] σ (.bool (xs.contains v)) := fun K hK =>
  corralref_Among.ok (hopI ⟨_, among_loop h hn v xs.length 0 (by omega) hK⟩)

/-- Into its place, once. -/
def insU (x : Int) : List Int → List Int
  | [] => [x]
  | y :: l => bif decide (y < x) then y :: insU x l else bif y == x then y :: l else x :: y :: l
def sortU (l : List Int) : List Int := l.foldl (fun o x => insU x o) []

theorem IsL.takeI {σ : Store} {a : Option Addr} {n : Nat} {xs : List Int} (h : IsL iC 1 σ a n xs) (k c : Nat) (hk : k ≤ n) : IsL iC 1 σ (slAddr a 0 c 1) k (xs.take k) := by
  refine ⟨by rw [List.length_take, ← h.1]; omega, fun h0 => ?_⟩
  obtain ⟨b, o, x, rfl, hb, hl, hx⟩ := h.2 (by omega)
  refine ⟨b, o, x, by unfold slAddr; split <;> rfl, hb, by simp only [Nat.mul_one] at hl ⊢; omega, ?_⟩
  rw [← flatMap_take (enc := iC) (fun _ => rfl), ← hx, List.take_take, Nat.min_eq_left (by simp only [Nat.mul_one]; omega)]

theorem IsL.dropI {σ : Store} {a : Option Addr} {n : Nat} {xs : List Int} (h : IsL iC 1 σ a n xs) (j c : Nat) (hj : j ≤ n) (hc : n ≤ c) : IsL iC 1 σ (slAddr a j c 1) (n - j) (xs.drop j) := by
  refine ⟨by rw [List.length_drop, ← h.1], fun h0 => ?_⟩
  obtain ⟨b, o, x, rfl, hb, hl, hx⟩ := h.2 (by omega)
  refine ⟨b, o + j * 1, x, by unfold slAddr; rw [if_neg (by omega)]; simp [Addr.add], hb, by simp only [Nat.mul_one] at hl ⊢; omega, ?_⟩
  rw [← flatMap_drop (enc := iC) (fun _ => rfl), ← hx, List.drop_take, List.drop_drop]
  simp only [Nat.mul_one]

theorem insU_split (x : Int) : ∀ (l : List Int) (k : Nat), k ≤ l.length → (∀ j (h : j < k) (h' : j < l.length), l[j] < x) → (k = l.length ∨ ∃ h : k < l.length, ¬ l[k] < x ∧ l[k] ≠ x) → insU x l = l.take k ++ x :: l.drop k
  | [], k, hk, _, _ => by
    obtain rfl : k = 0 := by simpa using hk
    rfl
  | y :: l, 0, hk, hlt, hge => by
    rcases hge with h | ⟨h, h1, h2⟩
    · simp at h
    · unfold insU
      simp at h1 h2
      rw [decide_eq_false (by omega), cond_false]
      have : (y == x) = false := by simp [h2]
      rw [this, cond_false]; rfl
  | y :: l, k + 1, hk, hlt, hge => by
    have h0 := hlt 0 (by omega) (by simp)
    simp at h0
    unfold insU
    rw [decide_eq_true h0, cond_true, insU_split x l k (by simpa using hk) (fun j h h' => hlt (j + 1) (by omega) (by simp; omega)) ?_]
    · rfl
    · rcases hge with h | ⟨h, h1, h2⟩
      · left; simpa using h
      · right; exact ⟨by simpa using h, by simpa using h1, by simpa using h2⟩

theorem insU_mem' (x : Int) : ∀ (l : List Int) (k : Nat) (h : k < l.length), (∀ j (h : j < k) (h' : j < l.length), l[j] < x) → l[k] = x → insU x l = l
  | y :: l, 0, h, hlt, he => by
    simp at he
    unfold insU
    rw [decide_eq_false (by omega), cond_false]
    simp [he]
  | y :: l, k + 1, h, hlt, he => by
    have h0 := hlt 0 (by omega) (by simp)
    simp at h0
    unfold insU
    rw [decide_eq_true h0, cond_true, insU_mem' x l k (by simpa using h) (fun j h h' => hlt (j + 1) (by omega) (by simp; omega)) (by simpa using he)]
end Go.Ev
