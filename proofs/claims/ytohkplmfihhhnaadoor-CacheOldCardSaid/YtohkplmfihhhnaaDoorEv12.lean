/-
  The evaluator, part 12: what the steps of a residual program ask for, given what is known of the store: cells, lists of elements, lists of one's own.
  Conditions: none.
-/
import Derived.Test.YtohkplmfihhhnaaDoorEv11
namespace Go.Ev
open Go

@[simp] theorem set_same (σ : Store) (b : Nat) (k : Blk) : Store.set σ b k b = some k := by simp [Store.set]

theorem set_diff {σ : Store} {b i : Nat} {k : Blk} (h : i ≠ b) : Store.set σ b k i = σ i := by simp [Store.set, h]

theorem set_twice (σ : Store) (b : Nat) (k k' : Blk) : (σ.set b k).set b k' = σ.set b k' := by
  funext i; unfold Store.set; by_cases h : i = b <;> simp [h]

theorem rd {σ : Store} {b off : Nat} {k : Blk} {v : Value} (h : σ b = some k) (hv : k.cells[off]? = some v) : cellAt σ b off = some v := by
  unfold cellAt; rw [h]; exact hv

theorem rds {σ : Store} {b off n : Nat} {k : Blk} {l : List Value} (h : σ b = some k) (hl : off + n ≤ k.cells.length) (hv : (k.cells.drop off).take n = l) :
    cellsAt σ b off n = some l := by
  unfold cellsAt; rw [h]; simp [hl, hv]

theorem st {σ : Store} {b off n : Nat} {k : Blk} {vs : List Value} {K : Store → Prop} (h : σ b = some k) (hf : k.fz = (0, 0)) (hn : vs.length = n)
    (ho : vs.all one = true) (hl : off + n ≤ k.cells.length) (hK : K (σ.set b ⟨k.ty, spliceL k.cells off vs, (0, 0)⟩)) : StoreK σ b off n vs K :=
  ⟨hn, ho, k, h, hl, hf, hK⟩

theorem rq {c : Bool} {K : Prop} (h : c = true) (hK : K) : Req c K := by subst h; exact hK

theorem cond_t {c : Bool} {A B : Prop} (h : c = true) (hA : A) : (cond c A B : Prop) := by subst h; exact hA
theorem cond_f {c : Bool} {A B : Prop} (h : c = false) (hB : B) : (cond c A B : Prop) := by subst h; exact hB
theorem cond_i {c : Bool} {A B : Prop} (hA : c = true → A) (hB : c = false → B) : (cond c A B : Prop) := by cases c; exact hB rfl; exact hA rfl

theorem hopI {s : List Item} {X : Prop} (h : X) : Hop s s X := ⟨rfl, h⟩

theorem wrap_id {x : Int} (h : -9223372036854775808 ≤ x) (h' : x < 9223372036854775808) : IntKind.wrap .i64 x = x := by rw [IntKind.wrap_i64]; omega

theorem wrap_succ {i : Nat} (h : i < 4611686018427387904) : IntKind.wrap .i64 ((i : Int) + 1) = ((i + 1 : Nat) : Int) := by
  rw [wrap_id (by omega) (by omega)]; rfl

/-! ### Lists of elements -/
/-- A slice whose elements are 'xs'. -/
def IsL {α : Type} (enc : α → List Value) (esz : Nat) (σ : Store) (a : Option Addr) (n : Nat) (xs : List α) : Prop :=
  n = xs.length ∧ (n ≠ 0 → ∃ b o k, a = some ⟨b, o, none⟩ ∧ σ b = some k ∧ o + n * esz ≤ k.cells.length ∧ (k.cells.drop o).take (n * esz) = xs.flatMap enc)

/-- A slice of one's own: nobody who knew 'σ0' knows its block. -/
def Own {α : Type} (enc : α → List Value) (esz : Nat) (σ0 σ : Store) (a : Option Addr) (n c : Nat) (xs : List α) : Prop :=
  n = xs.length ∧ n ≤ c ∧ (c ≠ 0 → ∃ b o k, a = some ⟨b, o, none⟩ ∧ σ0 b = none ∧ σ b = some k ∧ k.fz = (0, 0) ∧ o + c * esz ≤ k.cells.length ∧ (k.cells.drop o).take (n * esz) = xs.flatMap enc)

theorem Own.isL {α : Type} {enc : α → List Value} {esz : Nat} {σ0 σ : Store} {a : Option Addr} {n c : Nat} {xs : List α} (h : Own enc esz σ0 σ a n c xs) : IsL enc esz σ a n xs := by
  obtain ⟨h1, h2, h3⟩ := h
  refine ⟨h1, fun hn => ?_⟩
  obtain ⟨b, o, k, e, _, hb, _, hl, ht⟩ := h3 (by omega)
  exact ⟨b, o, k, e, hb, by have := Nat.mul_le_mul_right esz h2; omega, ht⟩

theorem Own.nil {α : Type} (enc : α → List Value) (esz : Nat) (σ0 σ : Store) : Own enc esz σ0 σ none 0 0 [] := ⟨rfl, Nat.le_refl _, fun h => (h rfl).elim⟩

theorem IsL.mono {α : Type} {enc : α → List Value} {esz : Nat} {σ σ' : Store} {a : Option Addr} {n : Nat} {xs : List α} (h : IsL enc esz σ a n xs) (hl : ∀ b k, σ b = some k → σ' b = some k) : IsL enc esz σ' a n xs := by
  obtain ⟨h1, h2⟩ := h
  refine ⟨h1, fun hn => ?_⟩
  obtain ⟨b, o, k, e, hb, r⟩ := h2 hn
  exact ⟨b, o, k, e, hl b k hb, r⟩

theorem flatMap_take {α : Type} {enc : α → List Value} {esz : Nat} (he : ∀ x, (enc x).length = esz) : ∀ (xs : List α) (i : Nat), (xs.flatMap enc).take (i * esz) = (xs.take i).flatMap enc
  | [], i => by simp
  | x :: xs, 0 => by simp
  | x :: xs, i + 1 => by
    have := he x
    rw [List.flatMap_cons, List.take_succ_cons, List.flatMap_cons, List.take_append, List.take_of_length_le (by rw [this]; exact Nat.le_mul_of_pos_left _ (by omega))]
    rw [this, show (i + 1) * esz - esz = i * esz by rw [Nat.succ_mul]; omega, flatMap_take he xs i]

theorem flatMap_length {α : Type} {enc : α → List Value} {esz : Nat} (he : ∀ x, (enc x).length = esz) : ∀ (xs : List α), (xs.flatMap enc).length = xs.length * esz
  | [] => by simp
  | x :: xs => by rw [List.flatMap_cons, List.length_append, he x, flatMap_length he xs, List.length_cons, Nat.succ_mul]; omega

theorem flatMap_drop {α : Type} {enc : α → List Value} {esz : Nat} (he : ∀ x, (enc x).length = esz) : ∀ (xs : List α) (i : Nat), (xs.flatMap enc).drop (i * esz) = (xs.drop i).flatMap enc
  | [], i => by simp
  | x :: xs, 0 => by simp
  | x :: xs, i + 1 => by
    have := he x
    rw [List.flatMap_cons, List.drop_succ_cons, List.drop_append, List.drop_of_length_le (by rw [this]; exact Nat.le_mul_of_pos_left _ (by omega)), List.nil_append]
    rw [this, show (i + 1) * esz - esz = i * esz by rw [Nat.succ_mul]; omega, flatMap_drop he xs i]

/-- One element's cells. -/
theorem flatMap_elem {α : Type} {enc : α → List Value} {esz : Nat} (he : ∀ x, (enc x).length = esz) (xs : List α) (i : Nat) (hi : i < xs.length) :
    ((xs.flatMap enc).drop (i * esz)).take esz = enc xs[i] := by
  rw [flatMap_drop he, List.drop_eq_getElem_cons hi, List.flatMap_cons, List.take_append_of_le_length (Nat.le_of_eq (he _).symm), List.take_of_length_le (Nat.le_of_eq (he _))]

theorem IsL.at {α : Type} {enc : α → List Value} {esz : Nat} (he : ∀ x, (enc x).length = esz) {σ : Store} {a : Option Addr} {n : Nat} {xs : List α} (h : IsL enc esz σ a n xs)
    {t : Int} (i : Nat) (ht : t = (i : Int)) (hi : i < xs.length) {Body : Nat → Nat → Prop} (hB : ∀ B O, cellsAt σ B (O + i * esz) esz = some (enc xs[i]) → Body B O) :
    Req (decide (0 ≤ t) && decide (t < ((n : Nat) : Int))) (PtrNN a Body) := by
  obtain ⟨h1, h2⟩ := h
  subst h1
  subst ht
  refine rq (by simp; omega) ?_
  obtain ⟨b, o, k, e, hb, hl, hx⟩ := h2 (by omega)
  subst e
  have hle : i * esz + esz ≤ xs.length * esz := by
    have := Nat.mul_le_mul_right esz (show i + 1 ≤ xs.length from hi)
    rw [Nat.succ_mul] at this; exact this
  refine hB b o (rds hb (by omega) ?_)
  rw [← flatMap_elem he xs i hi, ← hx, List.drop_take, List.take_take, List.drop_drop, Nat.min_eq_left (by omega)]

theorem cellAt_of_cells {σ : Store} {b o : Nat} {v : Value} (h : cellsAt σ b o 1 = some [v]) : cellAt σ b o = some v := by
  unfold cellsAt at h
  unfold cellAt
  cases e : σ b with
  | none => simp [e] at h
  | some k =>
    simp only [e] at h ⊢
    split at h
    · rename_i hl
      simp only [Option.some.injEq] at h
      rw [List.drop_eq_getElem_cons (show o < k.cells.length by omega)] at h
      simp only [List.take_succ_cons, List.take_zero, List.cons.injEq, and_true] at h
      rw [List.getElem?_eq_getElem (by omega), h]
    · cases h

theorem IsL.at1 {α : Type} {e : α → Value} {σ : Store} {a : Option Addr} {n : Nat} {xs : List α} (h : IsL (fun x => [e x]) 1 σ a n xs)
    {t : Int} (i : Nat) (ht : t = (i : Int)) (hi : i < xs.length) {Body : Nat → Nat → Prop} (hB : ∀ B O, cellAt σ B (O + i * 1) = some (e xs[i]) → Body B O) :
    Req (decide (0 ≤ t) && decide (t < ((n : Nat) : Int))) (PtrNN a Body) :=
  IsL.at (esz := 1) (enc := fun x => [e x]) (fun _ => rfl) h i ht hi fun B O hc => hB B O (cellAt_of_cells (v := e xs[i]) hc)

theorem IsL.src {α : Type} {enc : α → List Value} {esz : Nat} {σ : Store} {a : Option Addr} {n : Nat} {xs : List α} (h : IsL enc esz σ a n xs) :
    srcCells σ a (n * esz) = some (xs.flatMap enc) := by
  obtain ⟨h1, h2⟩ := h
  unfold srcCells
  split
  · rename_i h0
    rcases Nat.eq_zero_or_pos n with h3 | h3
    · subst h3; rw [List.eq_nil_of_length_eq_zero h1.symm]; rfl
    · obtain ⟨b, o, k, e, hb, hl, hx⟩ := h2 (by omega)
      rw [h0] at hx; rw [← hx]; simp
  · rename_i h0
    obtain ⟨b, o, k, e, hb, hl, hx⟩ := h2 (by intro h; rw [h] at h0; simp at h0)
    subst e
    exact rds hb hl hx

theorem spliceL_eq : ∀ (vs cs : List Value) (off : Nat), off + vs.length ≤ cs.length → spliceL cs off vs = cs.take off ++ vs ++ cs.drop (off + vs.length)
  | [], cs, off, h => by simp [spliceL]
  | v :: r, cs, off, h => by
    have h1 : off < cs.length := by simp at h; omega
    unfold spliceL
    rw [spliceL_eq r _ _ (by simp at h ⊢; omega)]
    have e1 : (cs.set off v).take (off + 1) = cs.take off ++ [v] := by
      rw [List.take_succ_eq_append_getElem (by simpa using h1), List.getElem_set_self, List.take_set_of_le (Nat.le_refl _)]
    have e2 : (cs.set off v).drop (off + 1 + r.length) = cs.drop (off + (v :: r).length) := by
      rw [List.drop_set_of_lt (by omega)]; congr 1; simp; omega
    rw [e1, e2]; simp

/-- What stays, when only what is one's own is written. -/
structure Kept (σ0 σ σ' : Store) : Prop where
  same : ∀ b, σ0 b ≠ none → σ' b = σ b
  dom : ∀ b, σ b ≠ none → σ' b ≠ none

theorem Own.app {α : Type} {enc : α → List Value} {esz : Nat} (he : ∀ x, (enc x).length = esz) (ho : ∀ x, (enc x).all one = true) {σ0 σ : Store} {a : Option Addr} {n c : Nat} {xs : List α}
    (h : Own enc esz σ0 σ a n c xs) (hd : ∀ b, σ0 b ≠ none → σ b ≠ none) {ty : TypeId} {eb : Nat} {zs : List Value} (hz : zs.length = esz) {ys : List α} {vs : List Value} {m : Nat} (hv : vs = ys.flatMap enc) (hm : m = ys.length)
    (hb1 : (2 * (n + m) + 768) * eb ≤ 281474976710656) (hb2 : n + m ≤ 4611686018427387904) {K : Option Addr → Nat → Nat → Store → Prop}
    (hK : ∀ a' n' c' σ', Own enc esz σ0 σ' a' n' c' (xs ++ ys) → Kept σ0 σ σ' → K a' n' c' σ') : AppK ty esz eb zs σ a n c vs m K := by
  subst hv hm
  have hvl : (ys.flatMap enc).length = ys.length * esz := flatMap_length he ys
  have hvo : (ys.flatMap enc).all one = true := by
    rw [List.all_eq_true]; intro v hv; rw [List.mem_flatMap] at hv; obtain ⟨x, _, hx⟩ := hv
    exact List.all_eq_true.mp (ho x) v hx
  obtain ⟨h1, h2, h3⟩ := h
  refine ⟨fun h0 => ⟨h2, ?_⟩, fun h0 hle => ?_, fun h0 hlt => ⟨hb1, hb2, ?_⟩⟩
  · have : ys = [] := List.eq_nil_of_length_eq_zero h0
    subst this
    exact hK _ _ _ _ (by simpa using ⟨h1, h2, h3⟩) ⟨fun _ _ => rfl, fun _ h => h⟩
  · obtain ⟨b, o, k, e, hn, hb, hf, hl, ht⟩ := h3 (by omega)
    have hle1 : (n + ys.length) * esz ≤ c * esz := Nat.mul_le_mul_right esz hle
    have hsum : (n + ys.length) * esz = n * esz + ys.length * esz := Nat.add_mul _ _ _
    have hfit : o + n * esz + (ys.flatMap enc).length ≤ k.cells.length := by rw [hvl]; omega
    refine ⟨b, o, k, e, hb, by omega, hf, hvl, hvo, hK _ _ _ _ ⟨by rw [h1, List.length_append], hle, fun _ => ⟨b, o, _, e, hn, set_same _ _ _, rfl, ?_, ?_⟩⟩ ⟨fun i hi => set_diff (fun e' => hi (e' ▸ hn)), fun i hi => ?_⟩⟩
    · show o + c * esz ≤ (spliceL k.cells (o + n * esz) (ys.flatMap enc)).length
      rw [spliceL_length]; exact hl
    · show ((spliceL k.cells (o + n * esz) (ys.flatMap enc)).drop o).take ((n + ys.length) * esz) = (xs ++ ys).flatMap enc
      rw [List.flatMap_append, ← ht]
      rw [spliceL_eq _ _ _ hfit, hsum]
      have h5 : o + n * esz ≤ k.cells.length := by omega
      rw [List.append_assoc, List.drop_append_of_le_length (by rw [List.length_take]; omega), List.drop_take]
      rw [show o + n * esz - o = n * esz by omega]
      rw [List.take_append, List.take_of_length_le (by rw [List.length_take]; omega)]
      congr 1
      rw [List.length_take, List.length_drop, Nat.min_eq_left (by omega), show n * esz + ys.length * esz - n * esz = (ys.flatMap enc).length by rw [hvl]; omega, List.take_left']
      rfl
    · by_cases hib : i = b
      · subst hib; simp
      · rw [set_diff hib]; exact hi
  · have hs : IsL enc esz σ a n xs := Own.isL ⟨h1, h2, h3⟩
    refine ⟨_, hs.src, fun c' b hc hb => ?_⟩
    have hb0 : σ0 b = none := by
      cases e : σ0 b with
      | none => rfl
      | some k => exact absurd hb (hd b (by rw [e]; simp))
    refine hK _ _ _ _ ⟨by rw [h1, List.length_append], hc, fun _ => ⟨b, 0, _, rfl, hb0, set_same _ _ _, rfl, ?_, ?_⟩⟩ ⟨fun i hi => set_diff (fun e' => hi (e' ▸ hb0)), fun i hi => ?_⟩
    · show 0 + c' * esz ≤ (xs.flatMap enc ++ ys.flatMap enc ++ zeroN zs (c' - (n + ys.length))).length
      have hzl : (zeroN zs (c' - (n + ys.length))).length = (c' - (n + ys.length)) * esz := by
        simp [zeroN, hz]
      rw [List.length_append, List.length_append, flatMap_length he, hvl, hzl, ← h1, Nat.sub_mul]
      have := Nat.mul_le_mul_right esz hc
      rw [Nat.add_mul] at *
      omega
    · show (List.drop 0 (xs.flatMap enc ++ ys.flatMap enc ++ zeroN zs (c' - (n + ys.length)))).take ((n + ys.length) * esz) = (xs ++ ys).flatMap enc
      rw [List.drop_zero, List.flatMap_append, List.take_append_of_le_length (by rw [List.length_append, flatMap_length he, hvl, ← h1, Nat.add_mul]; exact Nat.le_refl _), List.take_of_length_le (by rw [List.length_append, flatMap_length he, hvl, ← h1, Nat.add_mul]; exact Nat.le_refl _)]
    · by_cases hib : i = b
      · subst hib; simp
      · rw [set_diff hib]; exact hi

theorem Own.keep {α : Type} {enc : α → List Value} {esz : Nat} {σ0 σ σ' σ1 : Store} {a : Option Addr} {n c : Nat} {xs : List α} (h : Own enc esz σ0 σ a n c xs) (hk : Kept σ1 σ σ') (hd : ∀ b, σ b ≠ none → σ1 b ≠ none) : Own enc esz σ0 σ' a n c xs := by
  obtain ⟨h1, h2, h3⟩ := h
  refine ⟨h1, h2, fun hc => ?_⟩
  obtain ⟨b, o, k, e, hn, hb, r⟩ := h3 hc
  exact ⟨b, o, k, e, hn, by rw [hk.same b (hd b (by rw [hb]; simp))]; exact hb, r⟩

/-- A slice of one's own, all of a new block. -/
theorem Own.fresh {α : Type} {enc : α → List Value} {esz : Nat} (he : ∀ x, (enc x).length = esz) {σ0 σ : Store} {b : Nat} {ty : TypeId} {xs : List α} (hn : σ0 b = none) (n : Nat) (hx : n = xs.length) {cs : List Value} (hc : cs = xs.flatMap enc) :
    Own enc esz σ0 (σ.set b ⟨ty, cs, (0, 0)⟩) (some ⟨b, 0, none⟩) n n xs := by
  subst hc
  refine ⟨hx, Nat.le_refl _, fun _ => ⟨b, 0, _, rfl, hn, set_same _ _ _, rfl, ?_, ?_⟩⟩
  · show 0 + n * esz ≤ (xs.flatMap enc).length
    rw [flatMap_length he, hx]; omega
  · show ((xs.flatMap enc).drop 0).take (n * esz) = _
    rw [List.drop_zero, List.take_of_length_le (by rw [flatMap_length he, hx]; exact Nat.le_refl _)]

theorem Own.base {α : Type} {enc : α → List Value} {esz : Nat} {σ0 σ1 σ : Store} {a : Option Addr} {n c : Nat} {xs : List α} (h : Own enc esz σ1 σ a n c xs) (hd : ∀ b, σ0 b ≠ none → σ1 b ≠ none) : Own enc esz σ0 σ a n c xs := by
  obtain ⟨h1, h2, h3⟩ := h
  refine ⟨h1, h2, fun hc => ?_⟩
  obtain ⟨b, o, k, e, hn, r⟩ := h3 hc
  refine ⟨b, o, k, e, ?_, r⟩
  cases e0 : σ0 b with
  | none => rfl
  | some x => exact absurd hn (hd b (by rw [e0]; simp))


theorem Kept.trans {σ0 σ σ' σ'' : Store} (h : Kept σ0 σ σ') (k : Kept σ0 σ' σ'') : Kept σ0 σ σ'' :=
  ⟨fun b hb => (k.same b hb).trans (h.same b hb), fun b hb => k.dom b (h.dom b hb)⟩
theorem Kept.refl (σ0 σ : Store) : Kept σ0 σ σ := ⟨fun _ _ => rfl, fun _ h => h⟩

theorem ptrI {b o : Nat} {K : Nat → Nat → Prop} (h : K b o) : PtrNN (some ⟨b, o, none⟩) K := h


theorem cells_part {σ : Store} {b o n : Nat} {l : List Value} (h : cellsAt σ b o n = some l) {i : Nat} {v : Value} (hv : l[i]? = some v) (hi : i < n) : cellAt σ b (o + i) = some v := by
  unfold cellsAt at h
  unfold cellAt
  cases e : σ b with
  | none => simp [e] at h
  | some k =>
    simp only [e] at h ⊢
    split at h
    · simp only [Option.some.injEq] at h
      subst h
      rw [List.getElem?_take_of_lt hi, List.getElem?_drop] at hv
      exact hv
    · cases h

theorem Own.ch {α : Type} {enc : α → List Value} {esz : Nat} {σ0 σ σ' : Store} {a : Option Addr} {n c : Nat} {xs : List α} (h : Own enc esz σ0 σ a n c xs) (hk : ∀ b, σ0 b = none → σ b ≠ none → σ' b = σ b) : Own enc esz σ0 σ' a n c xs := by
  obtain ⟨h1, h2, h3⟩ := h
  refine ⟨h1, h2, fun hc => ?_⟩
  obtain ⟨b, o, k, e, hn, hb, r⟩ := h3 hc
  exact ⟨b, o, k, e, hn, by rw [hk b hn (by rw [hb]; simp)]; exact hb, r⟩

theorem Own.tail {α : Type} {enc : α → List Value} {esz : Nat} (he : ∀ x, (enc x).length = esz) {σ0 σ : Store} {a : Option Addr} {n c : Nat} {x : α} {xs : List α} (h : Own enc esz σ0 σ a n c (x :: xs)) :
    Own enc esz σ0 σ (slAddr a 1 c esz) (n - 1) (c - 1) xs := by
  obtain ⟨h1, h2, h3⟩ := h
  simp at h1
  refine ⟨by omega, by omega, fun hc => ?_⟩
  obtain ⟨b, o, k, e, hn, hb, hf, hl, ht⟩ := h3 (by omega)
  subst e
  unfold slAddr
  rw [if_neg (by omega)]
  refine ⟨b, o + 1 * esz, k, ?_, hn, hb, hf, ?_, ?_⟩
  · simp only [Option.map, Addr.add]
    split
    · rename_i h0; rw [h0]; rfl
    · rfl
  · have : c * esz = 1 * esz + (c - 1) * esz := by rw [← Nat.add_mul]; congr 1; omega
    omega
  · rw [← List.drop_drop, show (n - 1) * esz = n * esz - 1 * esz by rw [← Nat.sub_mul], ← List.drop_take, ht, List.flatMap_cons, List.drop_left' (by rw [he]; omega)]


end Go.Ev
