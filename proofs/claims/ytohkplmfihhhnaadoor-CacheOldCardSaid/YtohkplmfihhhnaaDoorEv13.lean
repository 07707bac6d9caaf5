/-
  The evaluator, part 13: from what a row's reading says of the arguments to what is known of the store; from a contract back to the row.
  Conditions: none.
-/
import Derived.Test.YtohkplmfihhhnaaDoorEv12
import Derived.Below
import Derived.Deep.Slices
import Derived.DataReads
import Derived.ProofKit
import Derived.OpenShut
import Derived.ChangeOld
set_option linter.unusedVariables false
namespace Go.Ev
open Go Go.RowKit

/-! ### The whole heap as a store -/
def full (w : World) : Store := fun b => match w.heap[b]? with | some (.cells cs ty fz) => some ⟨ty, cs.toList, fz⟩ | _ => none

theorem full_holds (w : World) : Holds (full w) w := by
  intro b k hb
  unfold full at hb
  split at hb
  · rename_i cs ty fz e
    simp only [Option.some.injEq] at hb
    subst hb
    rw [e]; simp [Blk.obj]
  · cases hb

/-- Nothing that was there has changed. -/
def Same (σ0 σ : Store) : Prop := ∀ b, σ0 b ≠ none → σ b = σ0 b

theorem law_calls {P : Program} {f : FuncId} {args : List Value} {W : World} (h : ∀ K : Value → Store → Prop, (∀ σ', Same (full W) σ' → K (.bool true) σ') → Spec P f args (full W) K) :
    Calls P f args.toArray W fun e w' => e = .returned (.bool true) ∧ Below W.heap.size W w' := by
  refine (h (fun v σ' => v = .bool true ∧ Same (full W) σ') (fun σ' hs => ⟨rfl, hs⟩) W (full_holds W)).mono ?_
  rintro e w' ⟨v, σ', he, ⟨hv, hs⟩, hh, hx⟩
  subst hv
  refine ⟨he, hx.os, hx.tape, hx.output, hx.size, fun k hk => ?_⟩
  cases e0 : full W k with
  | none => exact hx.keep k hk e0
  | some x => rw [hh k x ((hs k (by rw [e0]; simp)).trans e0), full_holds W k x e0]

theorem full_cell {w : World} {a : Addr} {v : Value} (h : w.cell? a = some v) : ∃ k, full w a.block = some k ∧ a.spot = none ∧ k.cells[a.off]? = some v := by
  have hs := World.cell?_spot h
  unfold World.cell? at h
  unfold full
  split at h
  · rename_i c ty fz e
    rw [e]
    rw [hs] at h
    exact ⟨_, rfl, hs, by simpa using h⟩
  · cases h

/-! ### Plain types: what kinds their cells are of -/
inductive CK where
  | b
  | i (k : IntKind)
  | s

def CK.fits : CK → Value → Prop
  | .b, v => ∃ x, v = .bool x
  | .i k, v => ∃ n, v = .int k n ∧ (Lit.int k n).wf = true
  | .s, v => ∃ x, v = .string x ∧ x.size ≤ maxLen

def Fits : List CK → List Value → Prop
  | [], [] => True
  | k :: ks, v :: vs => k.fits v ∧ Fits ks vs
  | _, _ => False

theorem Fits.length : ∀ {ks : List CK} {vs : List Value}, Fits ks vs → vs.length = ks.length
  | [], [], _ => rfl
  | _ :: ks, _ :: vs, h => by rw [List.length_cons, List.length_cons, Fits.length h.2]
  | [], _ :: _, h => h.elim
  | _ :: _, [], h => h.elim

theorem Fits.append : ∀ {ks ks' : List CK} {vs vs' : List Value}, Fits ks vs → Fits ks' vs' → Fits (ks ++ ks') (vs ++ vs')
  | [], _, [], _, _, h => h
  | _ :: _, _, _ :: _, _, h, h' => ⟨h.1, h.2.append h'⟩
  | [], _, _ :: _, _, h, _ => h.elim
  | _ :: _, _, [], _, h, _ => h.elim

theorem Fits.cons {k : CK} {ks : List CK} {v : List Value} (h : Fits (k :: ks) v) : ∃ c r, v = c :: r ∧ k.fits c ∧ Fits ks r := by
  cases v with
  | nil => exact h.elim
  | cons c r => exact ⟨c, r, rfl, h.1, h.2⟩

theorem Fits.nil {v : List Value} (h : Fits [] v) : v = [] := by
  cases v with
  | nil => rfl
  | cons c r => exact h.elim

theorem okWide_array {P : Program} {w : World} {r : Reach} {b0 : Nat} {t e : TypeId} {n : Nat} {v : Value} (ht : P.underlying t = some (.array n e)) (h : Value.okWide P w r b0 t v) : ∃ cs, v = .agg cs := by
  simp only [Value.okWide, ht] at h
  obtain ⟨cs, h1, _⟩ := h
  exact ⟨cs, h1⟩

theorem agg_of_cells {cs : Array Value} {l : List Value} (h : (Value.agg cs).cells.toList = l) : Value.agg cs = .agg l.toArray := by
  have : cs.toList = l := h
  rw [← this]

def flatFs (rec : TypeId → Option (List CK)) (P : Program) : List Field → Nat → Option (List CK)
  | [], _ => some []
  | f :: r, off => match rec f.type, flatFs rec P r (off + P.cellsOf f.type) with
    | some ks, some l => if f.offset = off ∧ ks.length = P.cellsOf f.type then some (ks ++ l) else none
    | _, _ => none

def flatK (P : Program) : Nat → TypeId → Option (List CK)
  | 0, _ => none
  | n + 1, t => match P.underlying t with
    | some .bool => some [.b]
    | some (.int k) => some [.i k]
    | some .string => some [.s]
    | some (.struct fs) => (match flatFs (flatK P n) P fs.toList 0 with
      | some ks => if ks.length = P.cellsOf t then some ks else none
      | none => none)
    | some (.array m e) => (match flatK P n e with
      | some ks => if ks.length = P.cellsOf e ∧ m * P.cellsOf e = P.cellsOf t then some (List.replicate m ks).flatten else none
      | none => none)
    | _ => none

section
variable {H : Type} {enc : TypeId × Value → H} {P : Program} {w : World} {base : Nat} {spare : Nat → Bool} {held : Bool}

theorem drop_take_cons (cs : List Value) (off m : Nat) : cs.drop off = (cs.drop off).take m ++ cs.drop (off + m) := by
  rw [← List.drop_drop, List.take_append_drop]

theorem fits_fs {n : Nat} (ih : ∀ (t : TypeId) (ks : List CK), flatK P n t = some ks → ∀ (fuel : Nat) (cs : List Value) (x : DataW H × List MemPlace), DataW.trod enc P w base spare held fuel t cs = some x → Fits ks cs) {fuel : Nat} (cs : List Value) :
    ∀ (fs : List Field) (off : Nat) (ks : List CK), flatFs (flatK P n) P fs off = some ks → off + ks.length = cs.length →
      (∀ f ∈ fs, ∃ x, DataW.trod enc P w base spare held fuel f.type ((cs.drop f.offset).take (P.cellsOf f.type)) = some x) → Fits ks (cs.drop off)
  | [], off, ks, h, hl, _ => by
    simp only [flatFs, Option.some.injEq] at h
    subst h
    rw [List.drop_of_length_le (by simp at hl; omega)]
    trivial
  | f :: r, off, ks, h, hl, hx => by
    unfold flatFs at h
    split at h
    · rename_i k1 k2 e1 e2
      split at h
      · rename_i hc
        simp only [Option.some.injEq] at h
        subst h
        obtain ⟨x, hx1⟩ := hx f (by simp)
        rw [hc.1] at hx1
        have f1 := ih f.type k1 e1 fuel _ x hx1
        have f2 := fits_fs ih cs r (off + P.cellsOf f.type) k2 e2 (by simp at hl; omega) (fun g hg => hx g (by simp [hg]))
        rw [drop_take_cons cs off (P.cellsOf f.type)]
        exact f1.append f2
      · cases h
    · cases h

theorem fits_arr {e : TypeId} {ke : List CK} (ih : ∀ (fuel : Nat) (cs : List Value) (x : DataW H × List MemPlace), DataW.trod enc P w base spare held fuel e cs = some x → Fits ke cs) {fuel : Nat} (cs : List Value) (m : Nat) (hm : m * P.cellsOf e = cs.length)
    (hx : ∀ i, i < m → ∃ x, DataW.trod enc P w base spare held fuel e ((cs.drop (i * P.cellsOf e)).take (P.cellsOf e)) = some x) :
    ∀ (r i : Nat), i + r = m → Fits (List.replicate r ke).flatten (cs.drop (i * P.cellsOf e))
  | 0, i, hi => by
    rw [List.drop_of_length_le (by rw [← hm, ← hi]; simp)]
    trivial
  | r + 1, i, hi => by
    obtain ⟨x, h1⟩ := hx i (by omega)
    have f1 := ih fuel _ x h1
    have f2 := fits_arr ih cs m hm hx r (i + 1) (by omega)
    rw [drop_take_cons cs (i * P.cellsOf e) (P.cellsOf e), List.replicate_succ, List.flatten_cons]
    rw [show (i + 1) * P.cellsOf e = i * P.cellsOf e + P.cellsOf e by rw [Nat.succ_mul]] at f2
    exact f1.append f2

/-- What reads as a datum of a plain type has cells of its kinds. -/
theorem fits_of_trod : ∀ (n : Nat) (t : TypeId) (ks : List CK), flatK P n t = some ks → ∀ (fuel : Nat) (cs : List Value) (x : DataW H × List MemPlace), DataW.trod enc P w base spare held fuel t cs = some x → Fits ks cs
  | 0, _, _, h => by cases h
  | n + 1, t, ks, h => by
    intro fuel cs x hx
    cases fuel with
    | zero => cases hx
    | succ fuel =>
      unfold flatK at h
      unfold DataW.trod at hx
      cases ht : P.underlying t with
      | none => rw [ht] at h; cases h
      | some U =>
        rw [ht] at h hx
        cases U with
        | bool =>
          simp only [Option.some.injEq] at h
          subst h
          match cs, hx with
          | [.bool b], _ => exact ⟨⟨b, rfl⟩, trivial⟩
        | int k =>
          simp only [Option.some.injEq] at h
          subst h
          match cs, hx with
          | [.int k' m], hx =>
            simp only at hx
            split at hx
            · rename_i hc
              obtain ⟨rfl, hw⟩ := hc
              exact ⟨⟨m, rfl, hw⟩, trivial⟩
            · cases hx
        | string =>
          simp only [Option.some.injEq] at h
          subst h
          match cs, hx with
          | [.string s], hx =>
            simp only at hx
            split at hx
            · rename_i hc
              exact ⟨⟨s, rfl, hc⟩, trivial⟩
            · cases hx
        | struct fs =>
          simp only at h
          split at h
          · rename_i ks' e
            split at h
            · rename_i hl
              simp only [Option.some.injEq] at h
              subst h
              simp only at hx
              split at hx
              · rename_i hcl
                have hmap : ∃ xs, (fs.toList.mapM fun f => DataW.trod enc P w base spare held fuel f.type ((cs.drop f.offset).take (P.cellsOf f.type))) = some xs := by
                  cases e1 : (fs.toList.mapM fun f => DataW.trod enc P w base spare held fuel f.type ((cs.drop f.offset).take (P.cellsOf f.type))) with
                  | none => rw [e1] at hx; cases hx
                  | some xs => exact ⟨xs, rfl⟩
                obtain ⟨xs, hxs⟩ := hmap
                have := fits_fs (fun t ks h => fits_of_trod n t ks h) (fuel := fuel) cs fs.toList 0 ks' e (by omega) (fun f hf => by
                  obtain ⟨i, hi, rfl⟩ := List.mem_iff_getElem.1 hf
                  have g := mapM_some_get hxs i fs.toList[i] (List.getElem?_eq_getElem hi)
                  rw [List.getElem?_eq_getElem (by rw [mapM_some_length hxs]; exact hi)] at g
                  exact ⟨_, g⟩)
                rw [List.drop_zero] at this
                exact this
              · cases hx
            · cases h
          · cases h
        | array m e =>
          simp only at h
          split at h
          · rename_i ke ek
            split at h
            · rename_i hl
              simp only [Option.some.injEq] at h
              subst h
              simp only at hx
              split at hx
              · rename_i hcl
                have hmap : ∃ xs, ((List.range m).mapM fun i => DataW.trod enc P w base spare held fuel e ((cs.drop (i * P.cellsOf e)).take (P.cellsOf e))) = some xs := by
                  cases e1 : ((List.range m).mapM fun i => DataW.trod enc P w base spare held fuel e ((cs.drop (i * P.cellsOf e)).take (P.cellsOf e))) with
                  | none => rw [e1] at hx; cases hx
                  | some xs => exact ⟨xs, rfl⟩
                obtain ⟨xs, hxs⟩ := hmap
                have := fits_arr (fun fuel cs x h => fits_of_trod n e ke ek fuel cs x h) (fuel := fuel) cs m (by omega) (fun i hi => by
                  have g := mapM_some_get hxs i i (by simp [hi])
                  rw [List.getElem?_eq_getElem (by rw [mapM_some_length hxs]; simpa using hi)] at g
                  exact ⟨_, g⟩) m 0 (by omega)
                rw [Nat.zero_mul, List.drop_zero] at this
                exact this
              · cases hx
            · cases h
          · cases h
        | _ => cases h

/-! ### A slice of plain elements -/
theorem rows_cells {a : Addr} {sz : Nat} (hsz : 0 < sz) (vs : Nat → List Value) : ∀ (n : Nat), (∀ i, i < n → w.cells? base (a.add (i * sz)) sz = some (vs i)) → n ≠ 0 →
    ∃ k, full w a.block = some k ∧ a.spot = none ∧ a.off + n * sz ≤ k.cells.length ∧ (k.cells.drop a.off).take (n * sz) = ((List.range n).map vs).flatMap id
  | 0, _, h0 => (h0 rfl).elim
  | n + 1, h, _ => by
    obtain ⟨_, hlen, hcell⟩ := World.cells?_some (h n (by omega))
    have hadd : ∀ j, (a.add (n * sz)).add j = a.add (n * sz + j) := fun j => Go.Deep.add_add _ _ _
    have key : ∀ j, j < sz → ∃ k, full w a.block = some k ∧ a.spot = none ∧ k.cells[a.off + (n * sz + j)]? = (vs n)[j]? ∧ a.off + (n * sz + j) < k.cells.length := by
      intro j hj
      have e := hcell j hj
      rw [hadd, List.getElem?_eq_getElem (by omega)] at e
      obtain ⟨k, hk, hs, hc⟩ := full_cell e
      have hs' : a.spot = none := by
        unfold Addr.add at hs
        split at hs
        · exact hs
        · have := h 0 (by omega)
          obtain ⟨_, hl0, hc0⟩ := World.cells?_some this
          have e0 := hc0 0 hsz
          rw [List.getElem?_eq_getElem (by omega)] at e0
          have := World.cell?_spot e0
          simpa [Addr.add] using this
      have hb : (a.add (n * sz + j)).block = a.block ∧ (a.add (n * sz + j)).off = a.off + (n * sz + j) := by
        unfold Addr.add
        split
        · rename_i h0; rw [h0]; exact ⟨rfl, rfl⟩
        · exact ⟨rfl, rfl⟩
      rw [hb.1] at hk
      rw [hb.2] at hc
      refine ⟨k, hk, hs', by rw [hc, List.getElem?_eq_getElem (by omega)], ?_⟩
      rcases Nat.lt_or_ge (a.off + (n * sz + j)) k.cells.length with hlt | hge
      · exact hlt
      · rw [List.getElem?_eq_none hge] at hc; cases hc
    obtain ⟨k, hk, hs, _, hlt⟩ := key (sz - 1) (by omega)
    have hlast : ((k.cells.drop (a.off + n * sz)).take sz) = vs n := by
      refine List.ext_getElem? fun j => ?_
      rcases Nat.lt_or_ge j sz with hj | hj
      · obtain ⟨k', hk', _, hc, _⟩ := key j hj
        rw [hk] at hk'
        injection hk' with hk'
        subst hk'
        rw [List.getElem?_take_of_lt hj, List.getElem?_drop, Nat.add_assoc, hc]
      · rw [List.getElem?_eq_none (by rw [List.length_take]; omega), List.getElem?_eq_none (by omega)]
    have hle : a.off + (n + 1) * sz ≤ k.cells.length := by rw [Nat.succ_mul]; omega
    refine ⟨k, hk, hs, hle, ?_⟩
    rw [List.range_succ, List.map_append, List.flatMap_append]
    rw [show (n + 1) * sz = n * sz + sz by rw [Nat.succ_mul], List.take_add, List.drop_drop, hlast]
    have hrest : (k.cells.drop a.off).take (n * sz) = ((List.range n).map vs).flatMap id := by
      rcases Nat.eq_zero_or_pos n with h0 | h0
      · subst h0; simp
      · obtain ⟨k', hk', _, _, hx⟩ := rows_cells hsz vs n (fun i hi => h i (by omega)) (by omega)
        rw [hk] at hk'
        injection hk' with hk'
        subst hk'
        exact hx
    rw [hrest]
    simp

/-- A slice of plain elements that came in. -/
theorem open_list {t e : TypeId} {ks : List CK} {N : Nat} (ht : P.underlying t = some (.slice e)) (hk : flatK P N e = some ks) (hc : P.cellsOf e = ks.length) (hsz : 0 < ks.length) {a : Option Addr} {n c : Nat} {d : DataW H} {p : List MemPlace}
    (h : DataW.Trod enc P w base spare held t (.slice a n c) d p) : ∃ vs : List (List Value), IsL id ks.length (full w) a n vs ∧ ∀ v ∈ vs, Fits ks v := by
  obtain ⟨fuel, hf⟩ := h
  rcases Go.Deep.open_slice ht hf with ⟨hcs, _⟩ | ⟨a', len, cap, m, n', D, Pl, hcs, _, hl, hm, hmm, hx, hi⟩
  · simp [Value.cells] at hcs
    obtain ⟨rfl, rfl, rfl⟩ := hcs
    exact ⟨[], ⟨rfl, fun h => (h rfl).elim⟩, by simp⟩
  · simp [Value.cells] at hcs
    obtain ⟨rfl, rfl, rfl⟩ := hcs
    have hlm : n ≤ m := by rw [hmm]; split <;> omega
    rw [hc] at hi
    have hch : ∀ i, ∃ cs', i < n → (w.cells? base (a'.add (i * ks.length)) ks.length = some cs' ∧ Fits ks cs') := by
      intro i
      by_cases h : i < n
      · obtain ⟨cs', h1, h2⟩ := hi i (by omega)
        exact ⟨cs', fun _ => ⟨h1, fits_of_trod N e ks hk _ _ _ h2⟩⟩
      · exact ⟨[], fun h' => absurd h' h⟩
    obtain ⟨vs, hvs⟩ := Classical.axiomOfChoice hch
    refine ⟨(List.range n).map vs, ⟨by simp, fun hn => ?_⟩, fun v hv => ?_⟩
    · obtain ⟨k, hkk, hs, hle, hx⟩ := rows_cells (w := w) (base := base) hsz vs n (fun i hi => (hvs i hi).1) hn
      refine ⟨a'.block, a'.off, k, ?_, hkk, hle, hx⟩
      rw [← hs]
    · rw [List.mem_map] at hv
      obtain ⟨i, hi, rfl⟩ := hv
      exact (hvs i (List.mem_range.1 hi)).2

/-- The elements, named. -/
theorem name_list {α : Type} {enc' : α → List Value} {esz : Nat} {σ : Store} {a : Option Addr} {n : Nat} {ks : List CK} (hα : ∀ v, Fits ks v → ∃ x, v = enc' x) {vs : List (List Value)} (h : IsL id esz σ a n vs) (hf : ∀ v ∈ vs, Fits ks v) :
    ∃ xs : List α, IsL enc' esz σ a n xs := by
  have : ∃ xs : List α, vs = xs.map enc' := by
    clear h
    induction vs with
    | nil => exact ⟨[], rfl⟩
    | cons v vs ih =>
      obtain ⟨xs, hx⟩ := ih fun u hu => hf u (by simp [hu])
      obtain ⟨x, hx1⟩ := hα v (hf v (by simp))
      exact ⟨x :: xs, by rw [hx1, hx]; rfl⟩
  obtain ⟨xs, rfl⟩ := this
  refine ⟨xs, ?_⟩
  obtain ⟨h1, h2⟩ := h
  refine ⟨by simpa using h1, fun hn => ?_⟩
  obtain ⟨b, o, k, e, hb, hl, ht⟩ := h2 hn
  exact ⟨b, o, k, e, hb, hl, by rw [ht, List.flatMap_map]; rfl⟩

theorem open_plain {t : TypeId} {ks : List CK} {N : Nat} (hk : flatK P N t = some ks) {v : Value} {d : DataW H} {p : List MemPlace} (h : DataW.Trod enc P w base spare held t v d p) : Fits ks v.cells.toList := by
  obtain ⟨fuel, hf⟩ := h
  exact fits_of_trod N t ks hk fuel _ _ hf

end

end Go.Ev
