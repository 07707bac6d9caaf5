/-
  The evaluator, part 1: partial heaps ('Store'), what they say of a world ('Holds', 'Ext'), and the model's own operations ('Sem') read over a Store, with the proof that this reading is sound.
  Conditions: none.
-/
import Derived.OrdersHeld
import Derived.Tactics
import Derived.KernelRfl
namespace Go.Ev
open Go

/-- A block of cells, known whole. -/
structure Blk where
  ty : TypeId
  cells : List Value
  fz : Nat × Nat := (0, 0)

/-- What is known of the heap: some blocks, whole. -/
abbrev Store := Nat → Option Blk

def Store.set (σ : Store) (b : Nat) (k : Blk) : Store := fun i => if i = b then some k else σ i

def frozenIn (k : Blk) (off : Nat) : Bool := k.fz.1 ≤ off && off < k.fz.2

def Blk.obj (k : Blk) : Obj := .cells k.cells.toArray k.ty k.fz

def Holds (σ : Store) (w : World) : Prop := ∀ b k, σ b = some k → w.heap[b]? = some k.obj

/-- From a world to a later one: what the store doesn't know has stayed. -/
structure Ext (σ σ' : Store) (w w' : World) : Prop where
  os : w'.os = w.os
  tape : w'.tape = w.tape
  output : w'.output = w.output
  size : w.heap.size ≤ w'.heap.size
  keep : ∀ b, b < w.heap.size → σ b = none → w'.heap[b]? = w.heap[b]?
  dom : ∀ b, σ' b ≠ none → σ b ≠ none ∨ w.heap.size ≤ b

theorem Holds.lt {σ : Store} {w : World} (h : Holds σ w) {b : Nat} {k : Blk} (hb : σ b = some k) : b < w.heap.size := by
  have := h b k hb
  rcases Nat.lt_or_ge b w.heap.size with hl | hl
  · exact hl
  · rw [Array.getElem?_eq_none hl] at this; cases this

theorem Holds.fresh {σ : Store} {w : World} (h : Holds σ w) {b : Nat} (hb : w.heap.size ≤ b) : σ b = none := by
  cases e : σ b with
  | none => rfl
  | some k => exact absurd (h.lt e) (by omega)

theorem Ext.refl (σ : Store) (w : World) : Ext σ σ w w :=
  ⟨rfl, rfl, rfl, Nat.le_refl _, fun _ _ _ => rfl, fun _ h => .inl h⟩

theorem Ext.trans {σ σ' σ'' : Store} {w w' w'' : World} (h : Ext σ σ' w w') (k : Ext σ' σ'' w' w'') : Ext σ σ'' w w'' := by
  refine ⟨k.os.trans h.os, k.tape.trans h.tape, k.output.trans h.output, Nat.le_trans h.size k.size, fun b hb hn => ?_, fun b hb => ?_⟩
  · have h1 : σ' b = none := by
      cases e : σ' b with
      | none => rfl
      | some x =>
        rcases h.dom b (by rw [e]; simp) with h2 | h2
        · exact absurd hn h2
        · omega
    rw [k.keep b (Nat.lt_of_lt_of_le hb h.size) h1, h.keep b hb hn]
  · rcases k.dom b hb with h1 | h1
    · exact h.dom b h1
    · exact .inr (Nat.le_trans h.size h1)

/-- A store that knows less. -/
def Store.le (σ σ' : Store) : Prop := ∀ b k, σ b = some k → σ' b = some k

theorem Holds.mono {σ σ' : Store} {w : World} (h : Holds σ' w) (hl : σ.le σ') : Holds σ w := fun b k hb => h b k (hl b k hb)

theorem Ext.shrink {σ σ' σ'' : Store} {w w' : World} (h : Ext σ σ' w w') (hl : σ''.le σ') : Ext σ σ'' w w' :=
  ⟨h.os, h.tape, h.output, h.size, h.keep, fun b hb => by
    cases e : σ'' b with
    | none => exact absurd e hb
    | some k => exact h.dom b (by rw [hl b k e]; simp)⟩

def cellOf (σ : Store) (a : Addr) : Option Value :=
  match a.spot with
  | some _ => none
  | none => match σ a.block with
    | some k => k.cells[a.off]?
    | none => none

theorem cellOf_world {σ : Store} {w : World} (h : Holds σ w) {a : Addr} {v : Value} (hc : cellOf σ a = some v) : w.cell? a = some v := by
  unfold cellOf at hc
  cases hs : a.spot with
  | some s => simp [hs] at hc
  | none =>
    simp only [hs] at hc
    cases hb : σ a.block with
    | none => simp [hb] at hc
    | some k =>
      simp only [hb] at hc
      have := h _ _ hb
      simp [World.cell?, this, Blk.obj, hs, hc]

theorem frozen_world {σ : Store} {w : World} (h : Holds σ w) {a : Addr} {k : Blk} (hb : σ a.block = some k) : w.frozen? a = frozenIn k a.off := by
  have := h _ _ hb
  simp [World.frozen?, this, Blk.obj, frozenIn]

theorem shape_world {σ : Store} {w : World} (h : Holds σ w) {b : Nat} {k : Blk} (hb : σ b = some k) : w.shape? b = some (k.ty, k.cells.length) := by
  have := h _ _ hb
  simp [World.shape?, this, Blk.obj]

/-- One cell takes it. -/
def one (v : Value) : Bool := match v with | .agg _ | .tuple _ => false | _ => true

/-- The model's operations over a store: what holds behind them, whatever is left open. -/
def semA (P : Program) {α : Type} : Sem α → Store → (α → Store → Prop) → Prop
  | .pure a, σ, K => K a σ
  | .load _ a k, σ, K => ∃ v, cellOf σ a = some v ∧ semA P (k v) σ K
  | .store _ a v k, σ, K => one v = true ∧ a.spot = none ∧ ∃ b, σ a.block = some b ∧ a.off < b.cells.length ∧ frozenIn b a.off = false ∧
      semA P k (σ.set a.block { b with cells := b.cells.set a.off v }) K
  | .new (.cells c ty fz) k, σ, K => ∀ b, σ b = none → semA P (k b) (σ.set b ⟨ty, c.toList, fz⟩) K
  | .new _ _, _, _ => False
  | .shape r k, σ, K => ∃ b, σ r = some b ∧ semA P (k (some (b.ty, b.cells.length))) σ K
  | .frozen a k, σ, K => ∃ b, σ a.block = some b ∧ semA P (k (frozenIn b a.off)) σ K
  | .choose q k, σ, K => if q.forced then semA P (k 0) σ K else ∀ t, semA P (k (q.cut t)) σ K
  | .program k, σ, K => semA P (k P) σ K
  | .mark _ k, σ, K => semA P k σ K
  | _, _, _ => False

theorem Holds.set {σ : Store} {w : World} (h : Holds σ w) {b : Nat} {k : Blk} {w' : World} (hb : w'.heap[b]? = some k.obj)
    (ho : ∀ i, i ≠ b → w'.heap[i]? = w.heap[i]?) : Holds (σ.set b k) w' := by
  intro i j hi
  unfold Store.set at hi
  by_cases e : i = b
  · subst e; simp at hi; subst hi; exact hb
  · simp [e] at hi; rw [ho i e]; exact h i j hi

/-- The whole of a store over a known block. -/
theorem setCell_heap {σ : Store} {w : World} (h : Holds σ w) {a : Addr} {b : Blk} (hb : σ a.block = some b) (hs : a.spot = none) (v : Value) :
    (w.setCell a v).heap[a.block]? = some (Blk.obj { b with cells := b.cells.set a.off v }) := by
  have := h _ _ hb
  simp [World.setCell, Array.getElem?_modify, this, Blk.obj, hs]

theorem setCell_other {w : World} {a : Addr} {v : Value} {i : Nat} (hi : i ≠ a.block) : (w.setCell a v).heap[i]? = w.heap[i]? := by
  simp only [World.setCell, Array.getElem?_modify]
  rw [if_neg (by omega)]

theorem set_ne {σ : Store} {b i : Nat} {k : Blk} (h : i ≠ b) : σ.set b k i = σ i := by simp [Store.set, h]
theorem set_eq {σ : Store} {b : Nat} {k : Blk} : σ.set b k b = some k := by simp [Store.set]

theorem Ext.store {σ : Store} {w : World} {a : Addr} {b k : Blk} {v : Value} (hb : σ a.block = some b) : Ext σ (σ.set a.block k) w (w.setCell a v) := by
  refine ⟨rfl, rfl, rfl, by simp [World.setCell], fun i _ hn => setCell_other (fun e => by subst e; rw [hb] at hn; cases hn), fun i hi => ?_⟩
  by_cases e : i = a.block
  · subst e; exact .inl (by rw [hb]; simp)
  · rw [set_ne e] at hi; exact .inl hi

theorem Ext.new {σ : Store} {w : World} {k : Blk} {o : Obj} : Ext σ (σ.set w.heap.size k) w { w with heap := w.heap.push o } := by
  refine ⟨rfl, rfl, rfl, by simp, fun i hi _ => by simp [Array.getElem?_push, Nat.ne_of_lt hi], fun i hi => ?_⟩
  by_cases e : i = w.heap.size
  · exact .inr (by omega)
  · rw [set_ne e] at hi; exact .inl hi

theorem Holds.new {σ : Store} {w : World} (h : Holds σ w) (c : Array Value) (ty : TypeId) (fz : Nat × Nat) :
    Holds (σ.set w.heap.size ⟨ty, c.toList, fz⟩) { w with heap := w.heap.push (.cells c ty fz) } := by
  intro i j hi
  unfold Store.set at hi
  by_cases e : i = w.heap.size
  · subst e; simp at hi; subst hi; simp [Blk.obj]
  · simp [e] at hi
    have := h i j hi
    have hl := h.lt hi
    simp [Array.getElem?_push, Nat.ne_of_lt hl, this]

theorem Holds.drawn {σ : Store} {w : World} (h : Holds σ w) (n : Nat) : Holds σ { w with drawn := n } := h

theorem run_store_eq {P : Program} {α : Type} {m : Mode} {a : Addr} {v : Value} {k : Sem α} {w : World} {u : Value} (h1 : one v = true) (hc : w.cell? a = some u) (hf : w.frozen? a = false) :
    (Sem.store m a v k).run P w = k.run P (w.setCell a v) := by
  cases v <;> simp [one] at h1 <;> simp [Sem.run, hc, hf]

theorem semA_run {P : Program} {α : Type} (s : Sem α) : ∀ {σ : Store} {K : α → Store → Prop} {w : World}, semA P s σ K → Holds σ w →
    ∃ a w' σ', s.run P w = .ok a w' ∧ K a σ' ∧ Holds σ' w' ∧ Ext σ σ' w w' := by
  induction s with
  | pure a => intro σ K w h hw; exact ⟨a, w, σ, rfl, h, hw, .refl _ _⟩
  | load m a k ih =>
    intro σ K w h hw
    obtain ⟨v, hc, h⟩ := h
    obtain ⟨x, w', σ', hr, hk⟩ := ih v h hw
    exact ⟨x, w', σ', by simp [Sem.run, cellOf_world hw hc, hr], hk⟩
  | store m a v k ih =>
    intro σ K w h hw
    obtain ⟨h1, hs, b, hb, hl, hf, h⟩ := h
    have hh := setCell_heap hw hb hs v
    obtain ⟨x, w', σ', hr, hk, hh', he⟩ := ih h (hw.set hh fun i hi => setCell_other hi)
    refine ⟨x, w', σ', ?_, hk, hh', (Ext.store hb).trans he⟩
    have hc : cellOf σ a = some b.cells[a.off] := by simp [cellOf, hs, hb, hl]
    rw [run_store_eq h1 (cellOf_world hw hc) (by rw [frozen_world hw hb]; exact hf), hr]
  | new o k ih =>
    intro σ K w h hw
    cases o with
    | cells c ty fz =>
      have h := h w.heap.size (hw.fresh (Nat.le_refl _))
      obtain ⟨x, w', σ', hr, hk, hh', he⟩ := ih _ h (hw.new c ty fz)
      exact ⟨x, w', σ', hr, hk, hh', Ext.new.trans he⟩
    | _ => exact h.elim
  | shape r k ih =>
    intro σ K w h hw
    obtain ⟨b, hb, h⟩ := h
    obtain ⟨x, w', σ', hr, hk⟩ := ih _ h hw
    exact ⟨x, w', σ', by simp [Sem.run, shape_world hw hb, hr], hk⟩
  | freeze a n k ih => intro σ K w h; exact h.elim
  | frozen a k ih =>
    intro σ K w h hw
    obtain ⟨b, hb, h⟩ := h
    obtain ⟨x, w', σ', hr, hk⟩ := ih _ h hw
    exact ⟨x, w', σ', by simp [Sem.run, frozen_world hw hb, hr], hk⟩
  | getObj r k ih => intro σ K w h; exact h.elim
  | setObj r o k ih => intro σ K w h; exact h.elim
  | choose q k ih =>
    intro σ K w h hw
    simp only [semA] at h
    by_cases hq : q.forced = true
    · simp only [hq, if_true] at h
      obtain ⟨x, w', σ', hr, hk⟩ := ih _ h hw
      exact ⟨x, w', σ', by simp [Sem.run, hq, hr], hk⟩
    · simp only [hq] at h
      obtain ⟨x, w', σ', hr, hk, hh, he⟩ := ih _ (h (w.tape w.drawn q)) (hw.drawn (w.drawn + 1))
      exact ⟨x, w', σ', by simp only [Sem.run, hq]; exact hr, hk, hh, ⟨he.os, he.tape, he.output, he.size, he.keep, he.dom⟩⟩
  | sys c k ih => intro σ K w h; exact h.elim
  | program k ih =>
    intro σ K w h hw
    obtain ⟨x, w', σ', hr, hk⟩ := ih P h hw
    exact ⟨x, w', σ', by simp [Sem.run, hr], hk⟩
  | mark m k ih =>
    intro σ K w h hw
    obtain ⟨x, w', σ', hr, hk⟩ := ih h hw
    exact ⟨x, w', σ', by simp [Sem.run, hr], hk⟩
  | halt x => intro σ K w h; exact h.elim

theorem semA_mono {P : Program} {α : Type} (s : Sem α) : ∀ {σ : Store} {K K' : α → Store → Prop}, (∀ a σ, K a σ → K' a σ) → semA P s σ K → semA P s σ K' := by
  induction s with
  | pure a => intro σ K K' hk h; exact hk _ _ h
  | load m a k ih => intro σ K K' hk ⟨v, hc, h⟩; exact ⟨v, hc, ih v hk h⟩
  | store m a v k ih => intro σ K K' hk ⟨h1, hs, b, hb, hl, hf, h⟩; exact ⟨h1, hs, b, hb, hl, hf, ih hk h⟩
  | new o k ih =>
    intro σ K K' hk h
    cases o with
    | cells c ty fz => exact fun b hb => ih _ hk (h b hb)
    | _ => exact h.elim
  | shape r k ih => intro σ K K' hk ⟨b, hb, h⟩; exact ⟨b, hb, ih _ hk h⟩
  | frozen a k ih => intro σ K K' hk ⟨b, hb, h⟩; exact ⟨b, hb, ih _ hk h⟩
  | choose q k ih =>
    intro σ K K' hk h
    simp only [semA] at h ⊢
    split
    · rename_i hq; rw [if_pos hq] at h; exact ih _ hk h
    · rename_i hq; rw [if_neg hq] at h; exact fun t => ih _ hk (h t)
  | program k ih => intro σ K K' hk h; exact ih P hk h
  | mark m k ih => intro σ K K' hk h; exact ih hk h
  | _ => intro σ K K' hk h; exact h.elim

theorem semA_bind {P : Program} {α β : Type} (s : Sem α) (f : α → Sem β) : ∀ {σ : Store} {K : β → Store → Prop}, semA P (s.bind f) σ K ↔ semA P s σ (fun a σ => semA P (f a) σ K) := by
  induction s with
  | pure a => intro σ K; exact Iff.rfl
  | load m a k ih => intro σ K; exact exists_congr fun v => and_congr_right fun _ => ih v
  | store m a v k ih => intro σ K; simp only [Sem.bind, semA, ih]
  | new o k ih =>
    intro σ K
    cases o with
    | cells c ty fz => exact forall_congr' fun b => forall_congr' fun _ => ih b
    | _ => exact Iff.rfl
  | shape r k ih => intro σ K; exact exists_congr fun b => and_congr_right fun _ => ih _
  | frozen a k ih => intro σ K; exact exists_congr fun b => and_congr_right fun _ => ih _
  | choose q k ih => intro σ K; simp only [Sem.bind, semA, ih]
  | program k ih => intro σ K; exact ih P
  | mark m k ih => intro σ K; exact ih
  | _ => intro σ K; exact Iff.rfl

end Go.Ev
