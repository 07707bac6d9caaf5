/-
  Wirings: words whose bits are bits of other words, nothing reckoned. Equalities of such words are decided bit by bit.
  Conditions: none.
-/
import Derived.Test.YtohkplmfihhhnaaDoorEv14
namespace Go.Ev
open Go

/-- A word's lowest n bits, with the highest of them spread upwards. -/
def sx (x : BitVec 32) (n : Nat) : BitVec 32 := (x.setWidth n).signExtend 32

inductive WE where
  | v (k : Nat)
  | c (x : BitVec 32)
  | and (a : WE) (m : BitVec 32)
  | or (a b : WE)
  | shl (a : WE) (k : Nat)
  | shr (a : WE) (k : Nat)
  | sx (a : WE) (n : Nat)

def WE.eval (ρ : Nat → BitVec 32) : WE → BitVec 32
  | .v k => ρ k
  | .c x => x
  | .and a m => a.eval ρ &&& m
  | .or a b => a.eval ρ ||| b.eval ρ
  | .shl a k => a.eval ρ <<< k
  | .shr a k => a.eval ρ >>> k
  | .sx a n => Go.Ev.sx (a.eval ρ) n

inductive Bt where
  | z
  | o
  | b (k i : Nat)
  deriving DecidableEq

def Bt.val (ρ : Nat → BitVec 32) : Bt → Bool
  | .z => false
  | .o => true
  | .b k i => (ρ k).getLsbD i

def orB : Option Bt → Option Bt → Option Bt
  | some .z, t => t
  | t, some .z => t
  | some x, some y => if x = y then some x else none
  | _, _ => none

def WE.bit : WE → Nat → Option Bt
  | .v k, i => if i < 32 then some (.b k i) else none
  | .c x, i => some (if x.getLsbD i then .o else .z)
  | .and a m, i => if m.getLsbD i then a.bit i else some .z
  | .or a b, i => orB (a.bit i) (b.bit i)
  | .shl a k, i => if i < 32 then (if i < k then some .z else a.bit (i - k)) else none
  | .shr a k, i => if i + k < 32 then a.bit (k + i) else some .z
  | .sx a n, i => if n = 0 then none else if i < 32 then (if i < n then a.bit i else a.bit (n - 1)) else none

theorem orB_sound {ρ : Nat → BitVec 32} {x y : Option Bt} {t : Bt} {p q : Bool} (h : orB x y = some t) (hx : ∀ u, x = some u → p = u.val ρ) (hy : ∀ u, y = some u → q = u.val ρ) : (p || q) = t.val ρ := by
  unfold orB at h
  split at h
  · rw [hx _ rfl, hy _ h]; rfl
  · rename_i u _
    rw [hy _ rfl, hx _ h]; simp [Bt.val]
  · rename_i u v _ _
    split at h
    · rename_i e
      subst e
      cases h
      rw [hx _ rfl, hy _ rfl]; simp
    · cases h
  · cases h

theorem WE.bit_sound (ρ : Nat → BitVec 32) : ∀ (e : WE) (i : Nat) (t : Bt), e.bit i = some t → (e.eval ρ).getLsbD i = t.val ρ
  | .v k, i, t, h => by
    unfold WE.bit at h
    split at h
    · cases h; rfl
    · cases h
  | .c x, i, t, h => by
    unfold WE.bit at h
    cases h
    unfold WE.eval
    split
    · rename_i h; simp [h, Bt.val]
    · rename_i h; simp [Bool.eq_false_iff.2 h, Bt.val]
  | .and a m, i, t, h => by
    unfold WE.bit at h
    unfold WE.eval
    rw [BitVec.getLsbD_and]
    split at h
    · rename_i hm; rw [hm, WE.bit_sound ρ a i t h]; simp
    · rename_i hm; cases h; simp [Bool.eq_false_iff.2 hm, Bt.val]
  | .or a b, i, t, h => by
    unfold WE.eval
    rw [BitVec.getLsbD_or]
    exact orB_sound h (fun u hu => WE.bit_sound ρ a i u hu) (fun u hu => WE.bit_sound ρ b i u hu)
  | .shl a k, i, t, h => by
    unfold WE.bit at h
    unfold WE.eval
    rw [BitVec.getLsbD_shiftLeft]
    split at h
    · rename_i h32
      split at h
      · rename_i hk; cases h; simp [hk, Bt.val]
      · rename_i hk; rw [WE.bit_sound ρ a _ t h]; simp [hk, h32]
    · cases h
  | .shr a k, i, t, h => by
    unfold WE.bit at h
    unfold WE.eval
    rw [BitVec.getLsbD_ushiftRight]
    split at h
    · exact WE.bit_sound ρ a _ t h
    · rename_i hk
      cases h
      exact BitVec.getLsbD_of_ge _ _ (by omega)
  | .sx a n, i, t, h => by
    unfold WE.bit at h
    unfold WE.eval Go.Ev.sx
    split at h
    · cases h
    · rename_i hn
      split at h
      · rename_i h32
        rw [BitVec.getLsbD_signExtend]
        split at h
        · rename_i hi
          rw [← WE.bit_sound ρ a i t h]
          simp [h32, hi, BitVec.getLsbD_setWidth]
        · rename_i hi
          rw [← WE.bit_sound ρ a _ t h]
          simp only [h32, decide_true, hi, if_false, Bool.true_and]
          rw [BitVec.msb_eq_getLsbD_last, BitVec.getLsbD_setWidth]
          simp; omega
      · cases h

/-- The bits' equalities that an equality comes to. -/
def eqBits (e e' : WE) : Nat → Option (List (Bt × Bt))
  | 0 => some []
  | n + 1 => match e.bit n, e'.bit n, eqBits e e' n with
    | some x, some y, some l => some (if x = y then l else (x, y) :: l)
    | _, _, _ => none

theorem eqBits_sound (ρ : Nat → BitVec 32) (e e' : WE) : ∀ (n : Nat) (l : List (Bt × Bt)), eqBits e e' n = some l → ((∀ i, i < n → (e.eval ρ).getLsbD i = (e'.eval ρ).getLsbD i) ↔ ∀ p ∈ l, p.1.val ρ = p.2.val ρ)
  | 0, l, h => by cases h; simp
  | n + 1, l, h => by
    unfold eqBits at h
    split at h
    · rename_i x y l' hx hy hl
      have ih := eqBits_sound ρ e e' n l' hl
      have bx := WE.bit_sound ρ e n x hx
      have by_ := WE.bit_sound ρ e' n y hy
      have key : (∀ i, i < n + 1 → (e.eval ρ).getLsbD i = (e'.eval ρ).getLsbD i) ↔ (x.val ρ = y.val ρ ∧ ∀ p ∈ l', p.1.val ρ = p.2.val ρ) := by
        rw [← ih, ← bx, ← by_]
        constructor
        · intro h; exact ⟨h n (by omega), fun i hi => h i (by omega)⟩
        · intro ⟨h1, h2⟩ i hi
          by_cases he : i = n
          · subst he; exact h1
          · exact h2 i (by omega)
      rw [key]
      split at h
      · rename_i e; cases h; rw [e]; simp
      · cases h; simp
    · cases h

theorem eval_iff (ρ : Nat → BitVec 32) (e e' : WE) {l : List (Bt × Bt)} (h : eqBits e e' 32 = some l) : (e.eval ρ = e'.eval ρ) ↔ ∀ p ∈ l, p.1.val ρ = p.2.val ρ := by
  rw [← eqBits_sound ρ e e' 32 l h]
  constructor
  · intro h i _; rw [h]
  · intro h; exact BitVec.eq_of_getLsbD_eq h

/-- Two wirings are the same word. -/
theorem wire (ρ : Nat → BitVec 32) (e e' : WE) (h : eqBits e e' 32 = some []) : e.eval ρ = e'.eval ρ := (eval_iff ρ e e' h).2 (by simp)

def eqAll : List (WE × WE) → Option (List (Bt × Bt))
  | [] => some []
  | p :: r => match eqBits p.1 p.2 32, eqAll r with
    | some l, some l' => some (l ++ l')
    | _, _ => none

theorem eqAll_sound (ρ : Nat → BitVec 32) : ∀ (L : List (WE × WE)) (l : List (Bt × Bt)), eqAll L = some l → ((∀ p ∈ L, p.1.eval ρ = p.2.eval ρ) ↔ ∀ p ∈ l, p.1.val ρ = p.2.val ρ)
  | [], l, h => by cases h; simp
  | p :: r, l, h => by
    unfold eqAll at h
    split at h
    · rename_i l1 l2 h1 h2
      cases h
      have a := eval_iff ρ p.1 p.2 h1
      have b := eqAll_sound ρ r l2 h2
      constructor
      · intro h q hq
        rcases List.mem_append.1 hq with hq | hq
        · exact a.1 (h p (by simp)) q hq
        · exact b.1 (fun x hx => h x (by simp [hx])) q hq
      · intro h q hq
        rcases List.mem_cons.1 hq with rfl | hq
        · exact a.2 fun x hx => h x (by simp [hx])
        · exact b.2 (fun x hx => h x (by simp [hx])) q hq
    · cases h

def subB (l l' : List (Bt × Bt)) : Bool := l.all fun p => l'.contains p || l'.contains (p.2, p.1)

theorem subB_sound (ρ : Nat → BitVec 32) {l l' : List (Bt × Bt)} (h : subB l l' = true) (h' : ∀ p ∈ l', p.1.val ρ = p.2.val ρ) : ∀ p ∈ l, p.1.val ρ = p.2.val ρ := by
  intro p hp
  have := List.all_eq_true.1 h p hp
  rw [Bool.or_eq_true, List.contains_iff_mem, List.contains_iff_mem] at this
  rcases this with h | h
  · exact h' p h
  · exact (h' _ h).symm

def sameEqs (L L' : List (WE × WE)) : Bool := match eqAll L, eqAll L' with
  | some l, some l' => subB l l' && subB l' l
  | _, _ => false

/-- Two lists of equalities come to the same. -/
theorem wires (ρ : Nat → BitVec 32) {L L' : List (WE × WE)} (h : sameEqs L L' = true) : (∀ p ∈ L, p.1.eval ρ = p.2.eval ρ) ↔ ∀ p ∈ L', p.1.eval ρ = p.2.eval ρ := by
  unfold sameEqs at h
  split at h
  · rename_i l l' h1 h2
    rw [Bool.and_eq_true] at h
    rw [eqAll_sound ρ L l h1, eqAll_sound ρ L' l' h2]
    exact ⟨fun a => subB_sound ρ h.2 a, fun a => subB_sound ρ h.1 a⟩
  · cases h

def WE.only0 : WE → Bool
  | .v k => k == 0
  | .c _ => true
  | .and a _ => a.only0
  | .or a b => a.only0 && b.only0
  | .shl a _ => a.only0
  | .shr a _ => a.only0
  | .sx a _ => a.only0

theorem eval_only0 {ρ ρ' : Nat → BitVec 32} (h0 : ρ 0 = ρ' 0) : ∀ (e : WE), e.only0 = true → e.eval ρ = e.eval ρ'
  | .v k, h => by
    have : k = 0 := by simpa [WE.only0] using h
    subst this; exact h0
  | .c x, _ => rfl
  | .and a m, h => by unfold WE.eval; rw [eval_only0 h0 a h]
  | .or a b, h => by
    unfold WE.only0 at h
    rw [Bool.and_eq_true] at h
    unfold WE.eval; rw [eval_only0 h0 a h.1, eval_only0 h0 b h.2]
  | .shl a k, h => by unfold WE.eval; rw [eval_only0 h0 a h]
  | .shr a k, h => by unfold WE.eval; rw [eval_only0 h0 a h]
  | .sx a n, h => by unfold WE.eval; rw [eval_only0 h0 a h]

def env4 (a b c d : BitVec 32) : Nat → BitVec 32
  | 0 => a
  | 1 => b
  | 2 => c
  | _ => d
end Go.Ev
