import Derived.Test.YtohkplmfihhhnaaDoorN
set_option linter.unusedVariables false
set_option maxRecDepth 100000
namespace Go.Ev
open Go
/-! ### corral/corralref.SameInst -/
def corralref_SameInst.H : Hints := { esc := [], cuts := [] }
noncomputable def corralref_SameInst.T : Nat → List Item := stk Pr F.corralref_SameInst []
def corralref_SameInst.m (K : Value → Store → Prop) (a0 a1 a2 a3 a4 a5 : Int) (a6 a7 : Bool) (b0 b1 b2 b3 b4 b5 : Int) (b6 b7 : Bool) (σ : Store) : Prop :=
  cond (a0 == b0)
  (cond (a1 == b1)
    (cond (a2 == b2)
      (cond (a3 == b3)
        (cond (a4 == b4)
          (cond (a5 == b5)
            (cond (a6 == b6)
              (K (.bool (a7 == b7)) σ)
              (K (.bool false) σ))
            (K (.bool false) σ))
          (K (.bool false) σ))
        (K (.bool false) σ))
      (K (.bool false) σ))
    (K (.bool false) σ))
  (K (.bool false) σ)
noncomputable def corralref_SameInst.h (K : Value → Store → Prop) : Hand := hsel []
theorem corralref_SameInst.m_eq (K : Value → Store → Prop) (a0 a1 a2 a3 a4 a5 : Int) (a6 a7 : Bool) (b0 b1 b2 b3 b4 b5 : Int) (b6 b7 : Bool) (σ : Store) : (segF Pr corralref_SameInst.H F.corralref_SameInst corralref_SameInst.T (corralref_SameInst.h K) K [.agg #[.int .i64 a0, .int .i64 a1, .int .i64 a2, .int .i64 a3, .int .i64 a4, .int .u32 a5, .bool a6, .bool a7], .agg #[.int .i64 b0, .int .i64 b1, .int .i64 b2, .int .i64 b3, .int .i64 b4, .int .u32 b5, .bool b6, .bool b7]] σ) = corralref_SameInst.m K a0 a1 a2 a3 a4 a5 a6 a7 b0 b1 b2 b3 b4 b5 b6 b7 σ := by kernel_rfl
theorem corralref_SameInst.ok {K : Value → Store → Prop} {a0 a1 a2 a3 a4 a5 : Int} {a6 a7 : Bool} {b0 b1 b2 b3 b4 b5 : Int} {b6 b7 : Bool} {σ : Store} (h : corralref_SameInst.m K a0 a1 a2 a3 a4 a5 a6 a7 b0 b1 b2 b3 b4 b5 b6 b7 σ) : Spec Pr F.corralref_SameInst [.agg #[.int .i64 a0, .int .i64 a1, .int .i64 a2, .int .i64 a3, .int .i64 a4, .int .u32 a5, .bool a6, .bool a7], .agg #[.int .i64 b0, .int .i64 b1, .int .i64 b2, .int .i64 b3, .int .i64 b4, .int .u32 b5, .bool b6, .bool b7]] σ K := by
  rw [← corralref_SameInst.m_eq] at h
  exact segF_spec Pr_mixed (hsel_sound fun x hx => by
    cases hx) h

/-! ### corral/word.mask -/
def word_mask.H : Hints := { esc := [], cuts := [] }
noncomputable def word_mask.T : Nat → List Item := stk Pr F.word_mask []
def word_mask.m (K : Value → Store → Prop) (n_ : Int) (σ : Store) : Prop :=
  cond (decide (n_ ≥ 32))
  (K (.int .u32 4294967295) σ)
  (Req (decide (0 ≤ (if 0 > n_ then 0 else n_))) (
      K (.int .u32 (IntKind.wrap .u32 ((shlI .u32 1 (if 0 > n_ then 0 else n_)) - 1))) σ))
noncomputable def word_mask.h (K : Value → Store → Prop) : Hand := hsel []
theorem word_mask.m_eq (K : Value → Store → Prop) (n_ : Int) (σ : Store) : (segF Pr word_mask.H F.word_mask word_mask.T (word_mask.h K) K [.int .i64 n_] σ) = word_mask.m K n_ σ := by kernel_rfl
theorem word_mask.ok {K : Value → Store → Prop} {n_ : Int} {σ : Store} (h : word_mask.m K n_ σ) : Spec Pr F.word_mask [.int .i64 n_] σ K := by
  rw [← word_mask.m_eq] at h
  exact segF_spec Pr_mixed (hsel_sound fun x hx => by
    cases hx) h

/-! ### corral/word.Bits -/
def word_Bits.H : Hints := { esc := [], cuts := [(3, [0, 1, 2], [])] }
noncomputable def word_Bits.T : Nat → List Item := stk Pr F.word_Bits [(3, [1, 1])]
abbrev word_Bits.R3 : Type := Int → Int → Int → Store → Prop
def word_Bits.d3 (g : word_Bits.R3) : List AV → List (List Value) → Store → Prop
  | [.v (.int .u32 x), .v (.int .i64 low), .v (.int .i64 n_)], [], σ => g x low n_ σ
  | _, _, _ => False
def word_Bits.S3 (K : Value → Store → Prop) (x low n_ : Int) (σ : Store) : Prop := SndF Pr F.word_Bits word_Bits.H word_Bits.T K 3 [.v (.int .u32 x), .v (.int .i64 low), .v (.int .i64 n_)] [] σ
def word_Bits.j3 (K : Value → Store → Prop) (x low n_ : Int) (σ : Store) : Prop :=
  Req (decide (0 ≤ low)) (
    Spec Pr F.word_mask [.int .i64 n_] σ fun v σ_ => ∃ t21 : Int, v = .int .u32 t21 ∧
    K (.int .u32 (andI .u32 (shrI .u32 x low) t21)) σ_)
def word_Bits.m (K : Value → Store → Prop) (x low n_ : Int) (σ : Store) : Prop :=
  cond (decide (low < 0))
  (K (.int .u32 0) σ)
  (cond (decide (low ≥ 32))
    (K (.int .u32 0) σ)
    (cond (decide (n_ < 1))
      (K (.int .u32 0) σ)
      (Hop (word_Bits.T 3) (word_Bits.T 3) (word_Bits.j3 K x low n_ σ))))
theorem word_Bits.d3_ok {K : Value → Store → Prop} {g : word_Bits.R3} (hg : ∀ x low n_ σ, g x low n_ σ → word_Bits.S3 K x low n_ σ) (vs : List AV) (bs : List (List Value)) (σ : Store) (h : word_Bits.d3 g vs bs σ) : SndF Pr F.word_Bits word_Bits.H word_Bits.T K 3 vs bs σ := by
  unfold word_Bits.d3 at h
  split at h
  · exact hg _ _ _ _ h
  · exact h.elim
noncomputable def word_Bits.h3 (K : Value → Store → Prop) : Hand := hsel []
theorem word_Bits.j3_eq (K : Value → Store → Prop) (x low n_ : Int) (σ : Store) : (seg Pr word_Bits.H F.word_Bits word_Bits.T (word_Bits.h3 K ) K (word_Bits.T 3) (Ev.cutE word_Bits.H 3 [.v (.int .u32 x), .v (.int .i64 low), .v (.int .i64 n_)] []) σ) = word_Bits.j3 K x low n_ σ := by kernel_rfl
theorem word_Bits.j3_ok (K : Value → Store → Prop) (x low n_ : Int) (σ : Store) (h : word_Bits.j3 K x low n_ σ) : word_Bits.S3 K x low n_ σ := by
  rw [← word_Bits.j3_eq] at h
  exact seg_snd Pr_mixed (hsel_sound fun x hx => by
    cases hx) h
noncomputable def word_Bits.h (K : Value → Store → Prop) : Hand := hsel [(3, word_Bits.d3 (word_Bits.j3 K ))]
theorem word_Bits.m_eq (K : Value → Store → Prop) (x low n_ : Int) (σ : Store) : (segF Pr word_Bits.H F.word_Bits word_Bits.T (word_Bits.h K) K [.int .u32 x, .int .i64 low, .int .i64 n_] σ) = word_Bits.m K x low n_ σ := by kernel_rfl
theorem word_Bits.ok {K : Value → Store → Prop} {x low n_ : Int} {σ : Store} (h : word_Bits.m K x low n_ σ) : Spec Pr F.word_Bits [.int .u32 x, .int .i64 low, .int .i64 n_] σ K := by
  rw [← word_Bits.m_eq] at h
  exact segF_spec Pr_mixed (hsel_sound fun x hx => by
    simp only [List.mem_cons, List.not_mem_nil, or_false] at hx
    subst hx
    exact word_Bits.d3_ok fun _ _ _ _ h => word_Bits.j3_ok K _ _ _ _ h) h

/-! ### corral/word.Sign -/
def word_Sign.H : Hints := { esc := [], cuts := [] }
noncomputable def word_Sign.T : Nat → List Item := stk Pr F.word_Sign []
def word_Sign.m (K : Value → Store → Prop) (x n_ : Int) (σ : Store) : Prop :=
  cond (decide (n_ < 1))
  (K (.int .u32 0) σ)
  (cond (decide (n_ ≥ 32))
    (K (.int .u32 x) σ)
    (Req (decide (0 ≤ (IntKind.wrap .i64 (32 - n_)))) (
        Req (decide (0 ≤ (IntKind.wrap .i64 (32 - n_)))) (
          K (.int .u32 (IntKind.wrap .u32 (shrI .i32 (IntKind.wrap .i32 (shlI .u32 x (IntKind.wrap .i64 (32 - n_)))) (IntKind.wrap .i64 (32 - n_))))) σ))))
noncomputable def word_Sign.h (K : Value → Store → Prop) : Hand := hsel []
theorem word_Sign.m_eq (K : Value → Store → Prop) (x n_ : Int) (σ : Store) : (segF Pr word_Sign.H F.word_Sign word_Sign.T (word_Sign.h K) K [.int .u32 x, .int .i64 n_] σ) = word_Sign.m K x n_ σ := by kernel_rfl
theorem word_Sign.ok {K : Value → Store → Prop} {x n_ : Int} {σ : Store} (h : word_Sign.m K x n_ σ) : Spec Pr F.word_Sign [.int .u32 x, .int .i64 n_] σ K := by
  rw [← word_Sign.m_eq] at h
  exact segF_spec Pr_mixed (hsel_sound fun x hx => by
    cases hx) h

/-! ### corral/word.Pack -/
def word_Pack.H : Hints := { esc := [], cuts := [(3, [3, 6, 7, 8], []), (6, [3, 6, 7, 8, 19], [(5, 131)]), (8, [3], [])] }
noncomputable def word_Pack.T : Nat → List Item := stk Pr F.word_Pack [(3, [1, 1, 0, 1, 0, 0]), (6, [1, 1, 0, 1, 0, 0, 1, 1, 0, 0, 1, 1]), (8, [1, 1, 1])]
abbrev word_Pack.R6 : Type := Int → Option Addr → Nat → Nat → Int → Int → Bool → Int → Int → Int → Store → Prop
abbrev word_Pack.R8 : Type := Int → Store → Prop
abbrev word_Pack.R3 : Type := Int → Option Addr → Nat → Nat → Int → Int → Store → Prop
def word_Pack.d6 (g : word_Pack.R6) : List AV → List (List Value) → Store → Prop
  | [.v (.int .u32 w), .v (.slice t6A t6N t6C), .v (.int .i64 t7), .v (.int .i64 t8), .v (.bool t19)], [[.int .i64 f0, .int .i64 f1, .int .u32 f2]], σ => g w t6A t6N t6C t7 t8 t19 f0 f1 f2 σ
  | _, _, _ => False
def word_Pack.S6 (K : Value → Store → Prop) (w : Int) (t6A : Option Addr) (t6N t6C : Nat) (t7 t8 : Int) (t19 : Bool) (f0 f1 f2 : Int) (σ : Store) : Prop := SndF Pr F.word_Pack word_Pack.H word_Pack.T K 6 [.v (.int .u32 w), .v (.slice t6A t6N t6C), .v (.int .i64 t7), .v (.int .i64 t8), .v (.bool t19)] [[.int .i64 f0, .int .i64 f1, .int .u32 f2]] σ
def word_Pack.j6 (K : Value → Store → Prop) (rr3 : word_Pack.R3) (w : Int) (t6A : Option Addr) (t6N t6C : Nat) (t7 t8 : Int) (t19 : Bool) (f0 f1 f2 : Int) (σ : Store) : Prop :=
  cond t19
  (Spec Pr F.word_mask [.int .i64 f1] σ fun v σ_ => ∃ t25 : Int, v = .int .u32 t25 ∧
    Req (decide (0 ≤ f0)) (
      Hop (word_Pack.T 3) (word_Pack.T 3) (rr3 (orI .u32 w (shlI .u32 (andI .u32 f2 t25) f0)) t6A t6N t6C t7 (IntKind.wrap .i64 (t8 + 1)) σ_)))
  (Hop (word_Pack.T 3) (word_Pack.T 3) (rr3 w t6A t6N t6C t7 (IntKind.wrap .i64 (t8 + 1)) σ))
def word_Pack.d8 (g : word_Pack.R8) : List AV → List (List Value) → Store → Prop
  | [.v (.int .u32 w)], [], σ => g w σ
  | _, _, _ => False
def word_Pack.S8 (K : Value → Store → Prop) (w : Int) (σ : Store) : Prop := SndF Pr F.word_Pack word_Pack.H word_Pack.T K 8 [.v (.int .u32 w)] [] σ
def word_Pack.j8 (K : Value → Store → Prop) (w : Int) (σ : Store) : Prop :=
  K (.int .u32 w) σ
def word_Pack.d3 (g : word_Pack.R3) : List AV → List (List Value) → Store → Prop
  | [.v (.int .u32 w), .v (.slice t6A t6N t6C), .v (.int .i64 t7), .v (.int .i64 t8)], [], σ => g w t6A t6N t6C t7 t8 σ
  | _, _, _ => False
def word_Pack.S3 (K : Value → Store → Prop) (w : Int) (t6A : Option Addr) (t6N t6C : Nat) (t7 t8 : Int) (σ : Store) : Prop := SndF Pr F.word_Pack word_Pack.H word_Pack.T K 3 [.v (.int .u32 w), .v (.slice t6A t6N t6C), .v (.int .i64 t7), .v (.int .i64 t8)] [] σ
def word_Pack.b3 (K : Value → Store → Prop) (rr3 : word_Pack.R3) (w : Int) (t6A : Option Addr) (t6N t6C : Nat) (t7 t8 : Int) (σ : Store) : Prop :=
  cond (decide (t8 < t7))
  (Req (decide (0 ≤ t8) && decide (t8 < ((t6N : Nat) : Int))) (
      PtrNN t6A fun t10B t10O =>
      ∃ t110 : Int, ∃ t111 : Int, ∃ t112 : Int, cellsAt σ t10B (t10O + t8.toNat * 3) 3 = some [.int .i64 t110, .int .i64 t111, .int .u32 t112] ∧
      cond (decide (t110 ≥ 0))
      (Hop (word_Pack.T 6) (word_Pack.T 6) (word_Pack.j6 K rr3 w t6A t6N t6C t7 t8 (decide (t110 < 32)) t110 t111 t112 σ))
      (Hop (word_Pack.T 6) (word_Pack.T 6) (word_Pack.j6 K rr3 w t6A t6N t6C t7 t8 false t110 t111 t112 σ))))
  (Hop (word_Pack.T 8) (word_Pack.T 8) (word_Pack.j8 K w σ))
def word_Pack.l3 (K : Value → Store → Prop) : Nat → word_Pack.R3
  | 0, _, _, _, _, _, _, _ => False
  | n + 1, w, t6A, t6N, t6C, t7, t8, σ => word_Pack.b3 K (word_Pack.l3 K n) w t6A t6N t6C t7 t8 σ
def word_Pack.m (K : Value → Store → Prop) (lA : Option Addr) (lN lC : Nat) (σ : Store) : Prop :=
  Hop (word_Pack.T 3) (word_Pack.T 3) (∃ n : Nat, word_Pack.l3 K n 0 lA lN lC ((lN : Nat) : Int) 0 σ)
theorem word_Pack.d6_ok {K : Value → Store → Prop} {g : word_Pack.R6} (hg : ∀ w t6A t6N t6C t7 t8 t19 f0 f1 f2 σ, g w t6A t6N t6C t7 t8 t19 f0 f1 f2 σ → word_Pack.S6 K w t6A t6N t6C t7 t8 t19 f0 f1 f2 σ) (vs : List AV) (bs : List (List Value)) (σ : Store) (h : word_Pack.d6 g vs bs σ) : SndF Pr F.word_Pack word_Pack.H word_Pack.T K 6 vs bs σ := by
  unfold word_Pack.d6 at h
  split at h
  · exact hg _ _ _ _ _ _ _ _ _ _ _ h
  · exact h.elim
theorem word_Pack.d8_ok {K : Value → Store → Prop} {g : word_Pack.R8} (hg : ∀ w σ, g w σ → word_Pack.S8 K w σ) (vs : List AV) (bs : List (List Value)) (σ : Store) (h : word_Pack.d8 g vs bs σ) : SndF Pr F.word_Pack word_Pack.H word_Pack.T K 8 vs bs σ := by
  unfold word_Pack.d8 at h
  split at h
  · exact hg _ _ h
  · exact h.elim
theorem word_Pack.d3_ok {K : Value → Store → Prop} {g : word_Pack.R3} (hg : ∀ w t6A t6N t6C t7 t8 σ, g w t6A t6N t6C t7 t8 σ → word_Pack.S3 K w t6A t6N t6C t7 t8 σ) (vs : List AV) (bs : List (List Value)) (σ : Store) (h : word_Pack.d3 g vs bs σ) : SndF Pr F.word_Pack word_Pack.H word_Pack.T K 3 vs bs σ := by
  unfold word_Pack.d3 at h
  split at h
  · exact hg _ _ _ _ _ _ _ h
  · exact h.elim
noncomputable def word_Pack.h6 (K : Value → Store → Prop) (rr3 : word_Pack.R3) : Hand := hsel [(3, word_Pack.d3 rr3)]
theorem word_Pack.j6_eq (K : Value → Store → Prop) (rr3 : word_Pack.R3) (w : Int) (t6A : Option Addr) (t6N t6C : Nat) (t7 t8 : Int) (t19 : Bool) (f0 f1 f2 : Int) (σ : Store) : (seg Pr word_Pack.H F.word_Pack word_Pack.T (word_Pack.h6 K rr3) K (word_Pack.T 6) (Ev.cutE word_Pack.H 6 [.v (.int .u32 w), .v (.slice t6A t6N t6C), .v (.int .i64 t7), .v (.int .i64 t8), .v (.bool t19)] [[.int .i64 f0, .int .i64 f1, .int .u32 f2]]) σ) = word_Pack.j6 K rr3 w t6A t6N t6C t7 t8 t19 f0 f1 f2 σ := by kernel_rfl
theorem word_Pack.j6_ok (K : Value → Store → Prop) (rr3 : word_Pack.R3) (hh3 : ∀ w t6A t6N t6C t7 t8 σ, rr3 w t6A t6N t6C t7 t8 σ → word_Pack.S3 K w t6A t6N t6C t7 t8 σ) (w : Int) (t6A : Option Addr) (t6N t6C : Nat) (t7 t8 : Int) (t19 : Bool) (f0 f1 f2 : Int) (σ : Store) (h : word_Pack.j6 K rr3 w t6A t6N t6C t7 t8 t19 f0 f1 f2 σ) : word_Pack.S6 K w t6A t6N t6C t7 t8 t19 f0 f1 f2 σ := by
  rw [← word_Pack.j6_eq] at h
  exact seg_snd Pr_mixed (hsel_sound fun x hx => by
    simp only [List.mem_cons, List.not_mem_nil, or_false] at hx
    subst hx
    exact word_Pack.d3_ok hh3) h
noncomputable def word_Pack.h8 (K : Value → Store → Prop) : Hand := hsel []
theorem word_Pack.j8_eq (K : Value → Store → Prop) (w : Int) (σ : Store) : (seg Pr word_Pack.H F.word_Pack word_Pack.T (word_Pack.h8 K ) K (word_Pack.T 8) (Ev.cutE word_Pack.H 8 [.v (.int .u32 w)] []) σ) = word_Pack.j8 K w σ := by kernel_rfl
theorem word_Pack.j8_ok (K : Value → Store → Prop) (w : Int) (σ : Store) (h : word_Pack.j8 K w σ) : word_Pack.S8 K w σ := by
  rw [← word_Pack.j8_eq] at h
  exact seg_snd Pr_mixed (hsel_sound fun x hx => by
    cases hx) h
noncomputable def word_Pack.h3 (K : Value → Store → Prop) (rr3 : word_Pack.R3) : Hand := hsel [(6, word_Pack.d6 (word_Pack.j6 K rr3)), (8, word_Pack.d8 (word_Pack.j8 K )), (3, word_Pack.d3 rr3)]
theorem word_Pack.b3_eq (K : Value → Store → Prop) (rr3 : word_Pack.R3) (w : Int) (t6A : Option Addr) (t6N t6C : Nat) (t7 t8 : Int) (σ : Store) : (seg Pr word_Pack.H F.word_Pack word_Pack.T (word_Pack.h3 K rr3) K (word_Pack.T 3) (Ev.cutE word_Pack.H 3 [.v (.int .u32 w), .v (.slice t6A t6N t6C), .v (.int .i64 t7), .v (.int .i64 t8)] []) σ) = word_Pack.b3 K rr3 w t6A t6N t6C t7 t8 σ := by kernel_rfl
theorem word_Pack.b3_ok (K : Value → Store → Prop) (rr3 : word_Pack.R3) (hh3 : ∀ w t6A t6N t6C t7 t8 σ, rr3 w t6A t6N t6C t7 t8 σ → word_Pack.S3 K w t6A t6N t6C t7 t8 σ) (w : Int) (t6A : Option Addr) (t6N t6C : Nat) (t7 t8 : Int) (σ : Store) (h : word_Pack.b3 K rr3 w t6A t6N t6C t7 t8 σ) : word_Pack.S3 K w t6A t6N t6C t7 t8 σ := by
  rw [← word_Pack.b3_eq] at h
  exact seg_snd Pr_mixed (hsel_sound fun x hx => by
    simp only [List.mem_cons, List.not_mem_nil, or_false] at hx
    rcases hx with rfl | rfl | rfl
    · exact word_Pack.d6_ok fun _ _ _ _ _ _ _ _ _ _ _ h => word_Pack.j6_ok K rr3 hh3 _ _ _ _ _ _ _ _ _ _ _ h
    · exact word_Pack.d8_ok fun _ _ h => word_Pack.j8_ok K _ _ h
    · exact word_Pack.d3_ok hh3) h
theorem word_Pack.l3_ok (K : Value → Store → Prop) : ∀ (n : Nat) (w : Int) (t6A : Option Addr) (t6N t6C : Nat) (t7 t8 : Int) (σ : Store), word_Pack.l3 K n w t6A t6N t6C t7 t8 σ → word_Pack.S3 K w t6A t6N t6C t7 t8 σ
  | 0, _, _, _, _, _, _, _, h => h.elim
  | n + 1, _, _, _, _, _, _, _, h => word_Pack.b3_ok K (word_Pack.l3 K n) (word_Pack.l3_ok K n) _ _ _ _ _ _ _ h
noncomputable def word_Pack.h (K : Value → Store → Prop) : Hand := hsel [(3, word_Pack.d3 fun w t6A t6N t6C t7 t8 σ => ∃ n : Nat, word_Pack.l3 K n w t6A t6N t6C t7 t8 σ)]
theorem word_Pack.m_eq (K : Value → Store → Prop) (lA : Option Addr) (lN lC : Nat) (σ : Store) : (segF Pr word_Pack.H F.word_Pack word_Pack.T (word_Pack.h K) K [.slice lA lN lC] σ) = word_Pack.m K lA lN lC σ := by kernel_rfl
theorem word_Pack.ok {K : Value → Store → Prop} {lA : Option Addr} {lN lC : Nat} {σ : Store} (h : word_Pack.m K lA lN lC σ) : Spec Pr F.word_Pack [.slice lA lN lC] σ K := by
  rw [← word_Pack.m_eq] at h
  exact segF_spec Pr_mixed (hsel_sound fun x hx => by
    simp only [List.mem_cons, List.not_mem_nil, or_false] at hx
    subst hx
    exact word_Pack.d3_ok fun _ _ _ _ _ _ _ ⟨n, h⟩ => word_Pack.l3_ok K n _ _ _ _ _ _ _ h) h

/-! ### corral/enc.Split -/
def enc_Split.H : Hints := { esc := [], cuts := [] }
noncomputable def enc_Split.T : Nat → List Item := stk Pr F.enc_Split []
def enc_Split.m (K : Value → Store → Prop) (w : Int) (σ : Store) : Prop :=
  Spec Pr F.word_Bits [.int .u32 w, .int .i64 0, .int .i64 7] σ fun v σ_ => ∃ t4 : Int, v = .int .u32 t4 ∧
  Spec Pr F.word_Bits [.int .u32 w, .int .i64 7, .int .i64 5] σ_ fun v1 σ_1 => ∃ t6 : Int, v1 = .int .u32 t6 ∧
  Spec Pr F.word_Bits [.int .u32 w, .int .i64 12, .int .i64 3] σ_1 fun v2 σ_2 => ∃ t8 : Int, v2 = .int .u32 t8 ∧
  Spec Pr F.word_Bits [.int .u32 w, .int .i64 15, .int .i64 5] σ_2 fun v3 σ_3 => ∃ t10 : Int, v3 = .int .u32 t10 ∧
  Spec Pr F.word_Bits [.int .u32 w, .int .i64 20, .int .i64 5] σ_3 fun v4 σ_4 => ∃ t12 : Int, v4 = .int .u32 t12 ∧
  Spec Pr F.word_Bits [.int .u32 w, .int .i64 25, .int .i64 7] σ_4 fun v5 σ_5 => ∃ t14 : Int, v5 = .int .u32 t14 ∧
  K (.agg #[.int .u32 t4, .int .u32 t6, .int .u32 t8, .int .u32 t10, .int .u32 t12, .int .u32 t14]) σ_5
noncomputable def enc_Split.h (K : Value → Store → Prop) : Hand := hsel []
theorem enc_Split.m_eq (K : Value → Store → Prop) (w : Int) (σ : Store) : (segF Pr enc_Split.H F.enc_Split enc_Split.T (enc_Split.h K) K [.int .u32 w] σ) = enc_Split.m K w σ := by kernel_rfl
theorem enc_Split.ok {K : Value → Store → Prop} {w : Int} {σ : Store} (h : enc_Split.m K w σ) : Spec Pr F.enc_Split [.int .u32 w] σ K := by
  rw [← enc_Split.m_eq] at h
  exact segF_spec Pr_mixed (hsel_sound fun x hx => by
    cases hx) h

/-! ### corral/enc.Join -/
def enc_Join.H : Hints := { esc := [21], cuts := [] }
noncomputable def enc_Join.T : Nat → List Item := stk Pr F.enc_Join []
def enc_Join.m (K : Value → Store → Prop) (h0 h1 h2 h3 h4 h5 : Int) (σ : Store) : Prop :=
  New σ ⟨131, [.int .i64 0, .int .i64 7, .int .u32 h0, .int .i64 7, .int .i64 5, .int .u32 h1, .int .i64 12, .int .i64 3, .int .u32 h2, .int .i64 15, .int .i64 5, .int .u32 h3, .int .i64 20, .int .i64 5, .int .u32 h4, .int .i64 25, .int .i64 7, .int .u32 h5], (0, 0)⟩ fun t21B σ_ =>
  Spec Pr F.word_Pack [.slice (some ⟨t21B, 0, none⟩) 6 6] σ_ fun v σ_1 => ∃ t22 : Int, v = .int .u32 t22 ∧
  K (.int .u32 t22) σ_1
noncomputable def enc_Join.h (K : Value → Store → Prop) : Hand := hsel []
theorem enc_Join.m_eq (K : Value → Store → Prop) (h0 h1 h2 h3 h4 h5 : Int) (σ : Store) : (segF Pr enc_Join.H F.enc_Join enc_Join.T (enc_Join.h K) K [.agg #[.int .u32 h0, .int .u32 h1, .int .u32 h2, .int .u32 h3, .int .u32 h4, .int .u32 h5]] σ) = enc_Join.m K h0 h1 h2 h3 h4 h5 σ := by kernel_rfl
theorem enc_Join.ok {K : Value → Store → Prop} {h0 h1 h2 h3 h4 h5 : Int} {σ : Store} (h : enc_Join.m K h0 h1 h2 h3 h4 h5 σ) : Spec Pr F.enc_Join [.agg #[.int .u32 h0, .int .u32 h1, .int .u32 h2, .int .u32 h3, .int .u32 h4, .int .u32 h5]] σ K := by
  rw [← enc_Join.m_eq] at h
  exact segF_spec Pr_mixed (hsel_sound fun x hx => by
    cases hx) h

/-! ### corral/enc.pieces -/
def enc_pieces.H : Hints := { esc := [8, 13, 20, 24, 31], cuts := [] }
noncomputable def enc_pieces.T : Nat → List Item := stk Pr F.enc_pieces []
def enc_pieces.m (K : Value → Store → Prop) (format : Int) (σ : Store) : Prop :=
  cond (format == 73)
  (New σ ⟨148, [.int .i64 20, .int .i64 12, .int .i64 0], (0, 0)⟩ fun t8B σ_ =>
    K (.tuple #[.slice (some ⟨t8B, 0, none⟩) 1 1, .int .i64 12]) σ_)
  (cond (format == 83)
    (New σ ⟨148, [.int .i64 25, .int .i64 7, .int .i64 5, .int .i64 7, .int .i64 5, .int .i64 0], (0, 0)⟩ fun t13B σ_1 =>
      K (.tuple #[.slice (some ⟨t13B, 0, none⟩) 2 2, .int .i64 12]) σ_1)
    (cond (format == 66)
      (New σ ⟨148, [.int .i64 31, .int .i64 1, .int .i64 12, .int .i64 7, .int .i64 1, .int .i64 11, .int .i64 25, .int .i64 6, .int .i64 5, .int .i64 8, .int .i64 4, .int .i64 1], (0, 0)⟩ fun t20B σ_2 =>
        K (.tuple #[.slice (some ⟨t20B, 0, none⟩) 4 4, .int .i64 13]) σ_2)
      (cond (format == 85)
        (New σ ⟨148, [.int .i64 12, .int .i64 20, .int .i64 12], (0, 0)⟩ fun t24B σ_3 =>
          K (.tuple #[.slice (some ⟨t24B, 0, none⟩) 1 1, .int .i64 32]) σ_3)
        (cond (format == 74)
          (New σ ⟨148, [.int .i64 31, .int .i64 1, .int .i64 20, .int .i64 12, .int .i64 8, .int .i64 12, .int .i64 20, .int .i64 1, .int .i64 11, .int .i64 21, .int .i64 10, .int .i64 1], (0, 0)⟩ fun t31B σ_4 =>
            K (.tuple #[.slice (some ⟨t31B, 0, none⟩) 4 4, .int .i64 21]) σ_4)
          (K (.tuple #[.slice none 0 0, .int .i64 0]) σ)))))
noncomputable def enc_pieces.h (K : Value → Store → Prop) : Hand := hsel []
theorem enc_pieces.m_eq (K : Value → Store → Prop) (format : Int) (σ : Store) : (segF Pr enc_pieces.H F.enc_pieces enc_pieces.T (enc_pieces.h K) K [.int .u8 format] σ) = enc_pieces.m K format σ := by kernel_rfl
theorem enc_pieces.ok {K : Value → Store → Prop} {format : Int} {σ : Store} (h : enc_pieces.m K format σ) : Spec Pr F.enc_pieces [.int .u8 format] σ K := by
  rw [← enc_pieces.m_eq] at h
  exact segF_spec Pr_mixed (hsel_sound fun x hx => by
    cases hx) h

/-! ### corral/enc.Imm -/
def enc_Imm.H : Hints := { esc := [], cuts := [(4, [1, 6, 7, 15, 16, 17], []), (8, [6, 7], [])] }
noncomputable def enc_Imm.T : Nat → List Item := stk Pr F.enc_Imm [(4, [1, 1, 1, 0, 1, 0, 0]), (8, [1, 1, 1, 1])]
abbrev enc_Imm.R8 : Type := Int → Int → Store → Prop
abbrev enc_Imm.R4 : Type := Int → Int → Int → Option Addr → Nat → Nat → Int → Int → Store → Prop
def enc_Imm.d8 (g : enc_Imm.R8) : List AV → List (List Value) → Store → Prop
  | [.v (.int .i64 n_), .v (.int .u32 x)], [], σ => g n_ x σ
  | _, _, _ => False
def enc_Imm.S8 (K : Value → Store → Prop) (n_ x : Int) (σ : Store) : Prop := SndF Pr F.enc_Imm enc_Imm.H enc_Imm.T K 8 [.v (.int .i64 n_), .v (.int .u32 x)] [] σ
def enc_Imm.j8 (K : Value → Store → Prop) (n_ x : Int) (σ : Store) : Prop :=
  Spec Pr F.word_Sign [.int .u32 x, .int .i64 n_] σ fun v σ_ => ∃ t35 : Int, v = .int .u32 t35 ∧
  K (.int .u32 t35) σ_
def enc_Imm.d4 (g : enc_Imm.R4) : List AV → List (List Value) → Store → Prop
  | [.v (.int .u32 w), .v (.int .i64 n_), .v (.int .u32 x), .v (.slice t15A t15N t15C), .v (.int .i64 t16), .v (.int .i64 t17)], [], σ => g w n_ x t15A t15N t15C t16 t17 σ
  | _, _, _ => False
def enc_Imm.S4 (K : Value → Store → Prop) (w n_ x : Int) (t15A : Option Addr) (t15N t15C : Nat) (t16 t17 : Int) (σ : Store) : Prop := SndF Pr F.enc_Imm enc_Imm.H enc_Imm.T K 4 [.v (.int .u32 w), .v (.int .i64 n_), .v (.int .u32 x), .v (.slice t15A t15N t15C), .v (.int .i64 t16), .v (.int .i64 t17)] [] σ
def enc_Imm.b4 (K : Value → Store → Prop) (rr4 : enc_Imm.R4) (w n_ x : Int) (t15A : Option Addr) (t15N t15C : Nat) (t16 t17 : Int) (σ : Store) : Prop :=
  cond (decide (t17 < t16))
  (Req (decide (0 ≤ t17) && decide (t17 < ((t15N : Nat) : Int))) (
      PtrNN t15A fun t19B t19O =>
      ∃ t200 : Int, ∃ t201 : Int, ∃ t202 : Int, cellsAt σ t19B (t19O + t17.toNat * 3) 3 = some [.int .i64 t200, .int .i64 t201, .int .i64 t202] ∧
      Spec Pr F.word_Bits [.int .u32 w, .int .i64 t200, .int .i64 t201] σ fun v σ_ => ∃ t27 : Int, v = .int .u32 t27 ∧
      Req (decide (0 ≤ t202)) (
        Hop (enc_Imm.T 4) (enc_Imm.T 4) (rr4 w n_ (orI .u32 x (shlI .u32 t27 t202)) t15A t15N t15C t16 (IntKind.wrap .i64 (t17 + 1)) σ_))))
  (Hop (enc_Imm.T 8) (enc_Imm.T 8) (enc_Imm.j8 K n_ x σ))
def enc_Imm.l4 (K : Value → Store → Prop) : Nat → enc_Imm.R4
  | 0, _, _, _, _, _, _, _, _, _ => False
  | n + 1, w, n_, x, t15A, t15N, t15C, t16, t17, σ => enc_Imm.b4 K (enc_Imm.l4 K n) w n_ x t15A t15N t15C t16 t17 σ
def enc_Imm.m (K : Value → Store → Prop) (format w : Int) (σ : Store) : Prop :=
  Spec Pr F.enc_pieces [.int .u8 format] σ fun v σ_ => ∃ t12aA : Option Addr, ∃ t12aN : Nat, ∃ t12aC : Nat, ∃ t12b : Int, v = .tuple #[.slice t12aA t12aN t12aC, .int .i64 t12b] ∧
  Hop (enc_Imm.T 4) (enc_Imm.T 4) (∃ n : Nat, enc_Imm.l4 K n w t12b 0 t12aA t12aN t12aC ((t12aN : Nat) : Int) 0 σ_)
theorem enc_Imm.d8_ok {K : Value → Store → Prop} {g : enc_Imm.R8} (hg : ∀ n_ x σ, g n_ x σ → enc_Imm.S8 K n_ x σ) (vs : List AV) (bs : List (List Value)) (σ : Store) (h : enc_Imm.d8 g vs bs σ) : SndF Pr F.enc_Imm enc_Imm.H enc_Imm.T K 8 vs bs σ := by
  unfold enc_Imm.d8 at h
  split at h
  · exact hg _ _ _ h
  · exact h.elim
theorem enc_Imm.d4_ok {K : Value → Store → Prop} {g : enc_Imm.R4} (hg : ∀ w n_ x t15A t15N t15C t16 t17 σ, g w n_ x t15A t15N t15C t16 t17 σ → enc_Imm.S4 K w n_ x t15A t15N t15C t16 t17 σ) (vs : List AV) (bs : List (List Value)) (σ : Store) (h : enc_Imm.d4 g vs bs σ) : SndF Pr F.enc_Imm enc_Imm.H enc_Imm.T K 4 vs bs σ := by
  unfold enc_Imm.d4 at h
  split at h
  · exact hg _ _ _ _ _ _ _ _ _ h
  · exact h.elim
noncomputable def enc_Imm.h8 (K : Value → Store → Prop) : Hand := hsel []
theorem enc_Imm.j8_eq (K : Value → Store → Prop) (n_ x : Int) (σ : Store) : (seg Pr enc_Imm.H F.enc_Imm enc_Imm.T (enc_Imm.h8 K ) K (enc_Imm.T 8) (Ev.cutE enc_Imm.H 8 [.v (.int .i64 n_), .v (.int .u32 x)] []) σ) = enc_Imm.j8 K n_ x σ := by kernel_rfl
theorem enc_Imm.j8_ok (K : Value → Store → Prop) (n_ x : Int) (σ : Store) (h : enc_Imm.j8 K n_ x σ) : enc_Imm.S8 K n_ x σ := by
  rw [← enc_Imm.j8_eq] at h
  exact seg_snd Pr_mixed (hsel_sound fun x hx => by
    cases hx) h
noncomputable def enc_Imm.h4 (K : Value → Store → Prop) (rr4 : enc_Imm.R4) : Hand := hsel [(8, enc_Imm.d8 (enc_Imm.j8 K )), (4, enc_Imm.d4 rr4)]
theorem enc_Imm.b4_eq (K : Value → Store → Prop) (rr4 : enc_Imm.R4) (w n_ x : Int) (t15A : Option Addr) (t15N t15C : Nat) (t16 t17 : Int) (σ : Store) : (seg Pr enc_Imm.H F.enc_Imm enc_Imm.T (enc_Imm.h4 K rr4) K (enc_Imm.T 4) (Ev.cutE enc_Imm.H 4 [.v (.int .u32 w), .v (.int .i64 n_), .v (.int .u32 x), .v (.slice t15A t15N t15C), .v (.int .i64 t16), .v (.int .i64 t17)] []) σ) = enc_Imm.b4 K rr4 w n_ x t15A t15N t15C t16 t17 σ := by kernel_rfl
theorem enc_Imm.b4_ok (K : Value → Store → Prop) (rr4 : enc_Imm.R4) (hh4 : ∀ w n_ x t15A t15N t15C t16 t17 σ, rr4 w n_ x t15A t15N t15C t16 t17 σ → enc_Imm.S4 K w n_ x t15A t15N t15C t16 t17 σ) (w n_ x : Int) (t15A : Option Addr) (t15N t15C : Nat) (t16 t17 : Int) (σ : Store) (h : enc_Imm.b4 K rr4 w n_ x t15A t15N t15C t16 t17 σ) : enc_Imm.S4 K w n_ x t15A t15N t15C t16 t17 σ := by
  rw [← enc_Imm.b4_eq] at h
  exact seg_snd Pr_mixed (hsel_sound fun x hx => by
    simp only [List.mem_cons, List.not_mem_nil, or_false] at hx
    rcases hx with rfl | rfl
    · exact enc_Imm.d8_ok fun _ _ _ h => enc_Imm.j8_ok K _ _ _ h
    · exact enc_Imm.d4_ok hh4) h
theorem enc_Imm.l4_ok (K : Value → Store → Prop) : ∀ (n : Nat) (w n_ x : Int) (t15A : Option Addr) (t15N t15C : Nat) (t16 t17 : Int) (σ : Store), enc_Imm.l4 K n w n_ x t15A t15N t15C t16 t17 σ → enc_Imm.S4 K w n_ x t15A t15N t15C t16 t17 σ
  | 0, _, _, _, _, _, _, _, _, _, h => h.elim
  | n + 1, _, _, _, _, _, _, _, _, _, h => enc_Imm.b4_ok K (enc_Imm.l4 K n) (enc_Imm.l4_ok K n) _ _ _ _ _ _ _ _ _ h
noncomputable def enc_Imm.h (K : Value → Store → Prop) : Hand := hsel [(4, enc_Imm.d4 fun w n_ x t15A t15N t15C t16 t17 σ => ∃ n : Nat, enc_Imm.l4 K n w n_ x t15A t15N t15C t16 t17 σ)]
theorem enc_Imm.m_eq (K : Value → Store → Prop) (format w : Int) (σ : Store) : (segF Pr enc_Imm.H F.enc_Imm enc_Imm.T (enc_Imm.h K) K [.int .u8 format, .int .u32 w] σ) = enc_Imm.m K format w σ := by kernel_rfl
theorem enc_Imm.ok {K : Value → Store → Prop} {format w : Int} {σ : Store} (h : enc_Imm.m K format w σ) : Spec Pr F.enc_Imm [.int .u8 format, .int .u32 w] σ K := by
  rw [← enc_Imm.m_eq] at h
  exact segF_spec Pr_mixed (hsel_sound fun x hx => by
    simp only [List.mem_cons, List.not_mem_nil, or_false] at hx
    subst hx
    exact enc_Imm.d4_ok fun _ _ _ _ _ _ _ _ _ ⟨n, h⟩ => enc_Imm.l4_ok K n _ _ _ _ _ _ _ _ _ h) h

/-! ### corral/enc.Lay -/
def enc_Lay.H : Hints := { esc := [], cuts := [(4, [0, 1, 6, 8, 16, 17, 18], []), (8, [0, 1, 6, 8], [])] }
noncomputable def enc_Lay.T : Nat → List Item := stk Pr F.enc_Lay [(4, [1, 1, 1, 0, 1, 0, 0]), (8, [1, 1, 1, 1])]
abbrev enc_Lay.R8 : Type := Int → Int → Option Addr → Nat → Nat → Int → Store → Prop
abbrev enc_Lay.R4 : Type := Int → Int → Option Addr → Nat → Nat → Int → Option Addr → Nat → Nat → Int → Int → Store → Prop
def enc_Lay.d8 (g : enc_Lay.R8) : List AV → List (List Value) → Store → Prop
  | [.v (.int .u8 format), .v (.int .u32 imm), .v (.slice lA lN lC), .v (.int .u32 w)], [], σ => g format imm lA lN lC w σ
  | _, _, _ => False
def enc_Lay.S8 (K : Value → Store → Prop) (format imm : Int) (lA : Option Addr) (lN lC : Nat) (w : Int) (σ : Store) : Prop := SndF Pr F.enc_Lay enc_Lay.H enc_Lay.T K 8 [.v (.int .u8 format), .v (.int .u32 imm), .v (.slice lA lN lC), .v (.int .u32 w)] [] σ
def enc_Lay.j8 (K : Value → Store → Prop) (format imm : Int) (lA : Option Addr) (lN lC : Nat) (w : Int) (σ : Store) : Prop :=
  cond lA.isNone
  (K (.tuple #[.int .u32 0, .bool false]) σ)
  (Spec Pr F.enc_Imm [.int .u8 format, .int .u32 w] σ fun v σ_ => ∃ t39 : Int, v = .int .u32 t39 ∧
    cond (t39 != imm)
    (K (.tuple #[.int .u32 0, .bool false]) σ_)
    (K (.tuple #[.int .u32 w, .bool true]) σ_))
def enc_Lay.d4 (g : enc_Lay.R4) : List AV → List (List Value) → Store → Prop
  | [.v (.int .u8 format), .v (.int .u32 imm), .v (.slice lA lN lC), .v (.int .u32 w), .v (.slice t16A t16N t16C), .v (.int .i64 t17), .v (.int .i64 t18)], [], σ => g format imm lA lN lC w t16A t16N t16C t17 t18 σ
  | _, _, _ => False
def enc_Lay.S4 (K : Value → Store → Prop) (format imm : Int) (lA : Option Addr) (lN lC : Nat) (w : Int) (t16A : Option Addr) (t16N t16C : Nat) (t17 t18 : Int) (σ : Store) : Prop := SndF Pr F.enc_Lay enc_Lay.H enc_Lay.T K 4 [.v (.int .u8 format), .v (.int .u32 imm), .v (.slice lA lN lC), .v (.int .u32 w), .v (.slice t16A t16N t16C), .v (.int .i64 t17), .v (.int .i64 t18)] [] σ
def enc_Lay.b4 (K : Value → Store → Prop) (rr4 : enc_Lay.R4) (format imm : Int) (lA : Option Addr) (lN lC : Nat) (w : Int) (t16A : Option Addr) (t16N t16C : Nat) (t17 t18 : Int) (σ : Store) : Prop :=
  cond (decide (t18 < t17))
  (Req (decide (0 ≤ t18) && decide (t18 < ((t16N : Nat) : Int))) (
      PtrNN t16A fun t20B t20O =>
      ∃ t210 : Int, ∃ t211 : Int, ∃ t212 : Int, cellsAt σ t20B (t20O + t18.toNat * 3) 3 = some [.int .i64 t210, .int .i64 t211, .int .i64 t212] ∧
      Spec Pr F.word_Bits [.int .u32 imm, .int .i64 t212, .int .i64 t211] σ fun v σ_ => ∃ t28 : Int, v = .int .u32 t28 ∧
      Req (decide (0 ≤ t210)) (
        Hop (enc_Lay.T 4) (enc_Lay.T 4) (rr4 format imm lA lN lC (orI .u32 w (shlI .u32 t28 t210)) t16A t16N t16C t17 (IntKind.wrap .i64 (t18 + 1)) σ_))))
  (Hop (enc_Lay.T 8) (enc_Lay.T 8) (enc_Lay.j8 K format imm lA lN lC w σ))
def enc_Lay.l4 (K : Value → Store → Prop) : Nat → enc_Lay.R4
  | 0, _, _, _, _, _, _, _, _, _, _, _, _ => False
  | n + 1, format, imm, lA, lN, lC, w, t16A, t16N, t16C, t17, t18, σ => enc_Lay.b4 K (enc_Lay.l4 K n) format imm lA lN lC w t16A t16N t16C t17 t18 σ
def enc_Lay.m (K : Value → Store → Prop) (format imm : Int) (σ : Store) : Prop :=
  Spec Pr F.enc_pieces [.int .u8 format] σ fun v σ_ => ∃ t13aA : Option Addr, ∃ t13aN : Nat, ∃ t13aC : Nat, ∃ t13b : Int, v = .tuple #[.slice t13aA t13aN t13aC, .int .i64 t13b] ∧
  Hop (enc_Lay.T 4) (enc_Lay.T 4) (∃ n : Nat, enc_Lay.l4 K n format imm t13aA t13aN t13aC 0 t13aA t13aN t13aC ((t13aN : Nat) : Int) 0 σ_)
theorem enc_Lay.d8_ok {K : Value → Store → Prop} {g : enc_Lay.R8} (hg : ∀ format imm lA lN lC w σ, g format imm lA lN lC w σ → enc_Lay.S8 K format imm lA lN lC w σ) (vs : List AV) (bs : List (List Value)) (σ : Store) (h : enc_Lay.d8 g vs bs σ) : SndF Pr F.enc_Lay enc_Lay.H enc_Lay.T K 8 vs bs σ := by
  unfold enc_Lay.d8 at h
  split at h
  · exact hg _ _ _ _ _ _ _ h
  · exact h.elim
theorem enc_Lay.d4_ok {K : Value → Store → Prop} {g : enc_Lay.R4} (hg : ∀ format imm lA lN lC w t16A t16N t16C t17 t18 σ, g format imm lA lN lC w t16A t16N t16C t17 t18 σ → enc_Lay.S4 K format imm lA lN lC w t16A t16N t16C t17 t18 σ) (vs : List AV) (bs : List (List Value)) (σ : Store) (h : enc_Lay.d4 g vs bs σ) : SndF Pr F.enc_Lay enc_Lay.H enc_Lay.T K 4 vs bs σ := by
  unfold enc_Lay.d4 at h
  split at h
  · exact hg _ _ _ _ _ _ _ _ _ _ _ _ h
  · exact h.elim
noncomputable def enc_Lay.h8 (K : Value → Store → Prop) : Hand := hsel []
theorem enc_Lay.j8_eq (K : Value → Store → Prop) (format imm : Int) (lA : Option Addr) (lN lC : Nat) (w : Int) (σ : Store) : (seg Pr enc_Lay.H F.enc_Lay enc_Lay.T (enc_Lay.h8 K ) K (enc_Lay.T 8) (Ev.cutE enc_Lay.H 8 [.v (.int .u8 format), .v (.int .u32 imm), .v (.slice lA lN lC), .v (.int .u32 w)] []) σ) = enc_Lay.j8 K format imm lA lN lC w σ := by kernel_rfl
theorem enc_Lay.j8_ok (K : Value → Store → Prop) (format imm : Int) (lA : Option Addr) (lN lC : Nat) (w : Int) (σ : Store) (h : enc_Lay.j8 K format imm lA lN lC w σ) : enc_Lay.S8 K format imm lA lN lC w σ := by
  rw [← enc_Lay.j8_eq] at h
  exact seg_snd Pr_mixed (hsel_sound fun x hx => by
    cases hx) h
noncomputable def enc_Lay.h4 (K : Value → Store → Prop) (rr4 : enc_Lay.R4) : Hand := hsel [(8, enc_Lay.d8 (enc_Lay.j8 K )), (4, enc_Lay.d4 rr4)]
theorem enc_Lay.b4_eq (K : Value → Store → Prop) (rr4 : enc_Lay.R4) (format imm : Int) (lA : Option Addr) (lN lC : Nat) (w : Int) (t16A : Option Addr) (t16N t16C : Nat) (t17 t18 : Int) (σ : Store) : (seg Pr enc_Lay.H F.enc_Lay enc_Lay.T (enc_Lay.h4 K rr4) K (enc_Lay.T 4) (Ev.cutE enc_Lay.H 4 [.v (.int .u8 format), .v (.int .u32 imm), .v (.slice lA lN lC), .v (.int .u32 w), .v (.slice t16A t16N t16C), .v (.int .i64 t17), .v (.int .i64 t18)] []) σ) = enc_Lay.b4 K rr4 format imm lA lN lC w t16A t16N t16C t17 t18 σ := by kernel_rfl
theorem enc_Lay.b4_ok (K : Value → Store → Prop) (rr4 : enc_Lay.R4) (hh4 : ∀ format imm lA lN lC w t16A t16N t16C t17 t18 σ, rr4 format imm lA lN lC w t16A t16N t16C t17 t18 σ → enc_Lay.S4 K format imm lA lN lC w t16A t16N t16C t17 t18 σ) (format imm : Int) (lA : Option Addr) (lN lC : Nat) (w : Int) (t16A : Option Addr) (t16N t16C : Nat) (t17 t18 : Int) (σ : Store) (h : enc_Lay.b4 K rr4 format imm lA lN lC w t16A t16N t16C t17 t18 σ) : enc_Lay.S4 K format imm lA lN lC w t16A t16N t16C t17 t18 σ := by
  rw [← enc_Lay.b4_eq] at h
  exact seg_snd Pr_mixed (hsel_sound fun x hx => by
    simp only [List.mem_cons, List.not_mem_nil, or_false] at hx
    rcases hx with rfl | rfl
    · exact enc_Lay.d8_ok fun _ _ _ _ _ _ _ h => enc_Lay.j8_ok K _ _ _ _ _ _ _ h
    · exact enc_Lay.d4_ok hh4) h
theorem enc_Lay.l4_ok (K : Value → Store → Prop) : ∀ (n : Nat) (format imm : Int) (lA : Option Addr) (lN lC : Nat) (w : Int) (t16A : Option Addr) (t16N t16C : Nat) (t17 t18 : Int) (σ : Store), enc_Lay.l4 K n format imm lA lN lC w t16A t16N t16C t17 t18 σ → enc_Lay.S4 K format imm lA lN lC w t16A t16N t16C t17 t18 σ
  | 0, _, _, _, _, _, _, _, _, _, _, _, _, h => h.elim
  | n + 1, _, _, _, _, _, _, _, _, _, _, _, _, h => enc_Lay.b4_ok K (enc_Lay.l4 K n) (enc_Lay.l4_ok K n) _ _ _ _ _ _ _ _ _ _ _ _ h
noncomputable def enc_Lay.h (K : Value → Store → Prop) : Hand := hsel [(4, enc_Lay.d4 fun format imm lA lN lC w t16A t16N t16C t17 t18 σ => ∃ n : Nat, enc_Lay.l4 K n format imm lA lN lC w t16A t16N t16C t17 t18 σ)]
theorem enc_Lay.m_eq (K : Value → Store → Prop) (format imm : Int) (σ : Store) : (segF Pr enc_Lay.H F.enc_Lay enc_Lay.T (enc_Lay.h K) K [.int .u8 format, .int .u32 imm] σ) = enc_Lay.m K format imm σ := by kernel_rfl
theorem enc_Lay.ok {K : Value → Store → Prop} {format imm : Int} {σ : Store} (h : enc_Lay.m K format imm σ) : Spec Pr F.enc_Lay [.int .u8 format, .int .u32 imm] σ K := by
  rw [← enc_Lay.m_eq] at h
  exact segF_spec Pr_mixed (hsel_sound fun x hx => by
    simp only [List.mem_cons, List.not_mem_nil, or_false] at hx
    subst hx
    exact enc_Lay.d4_ok fun _ _ _ _ _ _ _ _ _ _ _ _ ⟨n, h⟩ => enc_Lay.l4_ok K n _ _ _ _ _ _ _ _ _ _ _ _ h) h

/-! ### corral/isa.rows -/
def isa_rows.H : Hints := { esc := [70], cuts := [] }
noncomputable def isa_rows.T : Nat → List Item := stk Pr F.isa_rows []
def isa_rows.m (K : Value → Store → Prop) (σ : Store) : Prop :=
  New σ ⟨91, [.int .i64 1, .string (⟨#[108, 117, 105]⟩ : ByteArray), .int .i64 0, .int .u32 55, .int .u32 0, .int .u32 0, .int .i64 1, .int .i64 2, .string (⟨#[97, 117, 105, 112, 99]⟩ : ByteArray), .int .i64 0, .int .u32 23, .int .u32 0, .int .u32 0, .int .i64 1, .int .i64 3, .string (⟨#[106, 97, 108]⟩ : ByteArray), .int .i64 1, .int .u32 111, .int .u32 0, .int .u32 0, .int .i64 2, .int .i64 4, .string (⟨#[106, 97, 108, 114]⟩ : ByteArray), .int .i64 2, .int .u32 103, .int .u32 0, .int .u32 0, .int .i64 2, .int .i64 5, .string (⟨#[98, 101, 113]⟩ : ByteArray), .int .i64 3, .int .u32 99, .int .u32 0, .int .u32 0, .int .i64 3, .int .i64 6, .string (⟨#[98, 110, 101]⟩ : ByteArray), .int .i64 3, .int .u32 99, .int .u32 1, .int .u32 0, .int .i64 3, .int .i64 7, .string (⟨#[98, 108, 116]⟩ : ByteArray), .int .i64 3, .int .u32 99, .int .u32 4, .int .u32 0, .int .i64 3, .int .i64 8, .string (⟨#[98, 103, 101]⟩ : ByteArray), .int .i64 3, .int .u32 99, .int .u32 5, .int .u32 0, .int .i64 3, .int .i64 9, .string (⟨#[98, 108, 116, 117]⟩ : ByteArray), .int .i64 3, .int .u32 99, .int .u32 6, .int .u32 0, .int .i64 3, .int .i64 10, .string (⟨#[98, 103, 101, 117]⟩ : ByteArray), .int .i64 3, .int .u32 99, .int .u32 7, .int .u32 0, .int .i64 3, .int .i64 11, .string (⟨#[108, 98]⟩ : ByteArray), .int .i64 2, .int .u32 3, .int .u32 0, .int .u32 0, .int .i64 4, .int .i64 12, .string (⟨#[108, 104]⟩ : ByteArray), .int .i64 2, .int .u32 3, .int .u32 1, .int .u32 0, .int .i64 4, .int .i64 13, .string (⟨#[108, 119]⟩ : ByteArray), .int .i64 2, .int .u32 3, .int .u32 2, .int .u32 0, .int .i64 4, .int .i64 14, .string (⟨#[108, 98, 117]⟩ : ByteArray), .int .i64 2, .int .u32 3, .int .u32 4, .int .u32 0, .int .i64 4, .int .i64 15, .string (⟨#[108, 104, 117]⟩ : ByteArray), .int .i64 2, .int .u32 3, .int .u32 5, .int .u32 0, .int .i64 4, .int .i64 16, .string (⟨#[115, 98]⟩ : ByteArray), .int .i64 4, .int .u32 35, .int .u32 0, .int .u32 0, .int .i64 5, .int .i64 17, .string (⟨#[115, 104]⟩ : ByteArray), .int .i64 4, .int .u32 35, .int .u32 1, .int .u32 0, .int .i64 5, .int .i64 18, .string (⟨#[115, 119]⟩ : ByteArray), .int .i64 4, .int .u32 35, .int .u32 2, .int .u32 0, .int .i64 5, .int .i64 19, .string (⟨#[97, 100, 100, 105]⟩ : ByteArray), .int .i64 2, .int .u32 19, .int .u32 0, .int .u32 0, .int .i64 1, .int .i64 20, .string (⟨#[115, 108, 116, 105]⟩ : ByteArray), .int .i64 2, .int .u32 19, .int .u32 2, .int .u32 0, .int .i64 1, .int .i64 21, .string (⟨#[115, 108, 116, 105, 117]⟩ : ByteArray), .int .i64 2, .int .u32 19, .int .u32 3, .int .u32 0, .int .i64 1, .int .i64 22, .string (⟨#[120, 111, 114, 105]⟩ : ByteArray), .int .i64 2, .int .u32 19, .int .u32 4, .int .u32 0, .int .i64 1, .int .i64 23, .string (⟨#[111, 114, 105]⟩ : ByteArray), .int .i64 2, .int .u32 19, .int .u32 6, .int .u32 0, .int .i64 1, .int .i64 24, .string (⟨#[97, 110, 100, 105]⟩ : ByteArray), .int .i64 2, .int .u32 19, .int .u32 7, .int .u32 0, .int .i64 1, .int .i64 25, .string (⟨#[115, 108, 108, 105]⟩ : ByteArray), .int .i64 5, .int .u32 19, .int .u32 1, .int .u32 0, .int .i64 1, .int .i64 26, .string (⟨#[115, 114, 108, 105]⟩ : ByteArray), .int .i64 5, .int .u32 19, .int .u32 5, .int .u32 0, .int .i64 1, .int .i64 27, .string (⟨#[115, 114, 97, 105]⟩ : ByteArray), .int .i64 5, .int .u32 19, .int .u32 5, .int .u32 32, .int .i64 1, .int .i64 28, .string (⟨#[97, 100, 100]⟩ : ByteArray), .int .i64 6, .int .u32 51, .int .u32 0, .int .u32 0, .int .i64 1, .int .i64 29, .string (⟨#[115, 117, 98]⟩ : ByteArray), .int .i64 6, .int .u32 51, .int .u32 0, .int .u32 32, .int .i64 1, .int .i64 30, .string (⟨#[115, 108, 108]⟩ : ByteArray), .int .i64 6, .int .u32 51, .int .u32 1, .int .u32 0, .int .i64 1, .int .i64 31, .string (⟨#[115, 108, 116]⟩ : ByteArray), .int .i64 6, .int .u32 51, .int .u32 2, .int .u32 0, .int .i64 1, .int .i64 32, .string (⟨#[115, 108, 116, 117]⟩ : ByteArray), .int .i64 6, .int .u32 51, .int .u32 3, .int .u32 0, .int .i64 1, .int .i64 33, .string (⟨#[120, 111, 114]⟩ : ByteArray), .int .i64 6, .int .u32 51, .int .u32 4, .int .u32 0, .int .i64 1, .int .i64 34, .string (⟨#[115, 114, 108]⟩ : ByteArray), .int .i64 6, .int .u32 51, .int .u32 5, .int .u32 0, .int .i64 1, .int .i64 35, .string (⟨#[115, 114, 97]⟩ : ByteArray), .int .i64 6, .int .u32 51, .int .u32 5, .int .u32 32, .int .i64 1, .int .i64 36, .string (⟨#[111, 114]⟩ : ByteArray), .int .i64 6, .int .u32 51, .int .u32 6, .int .u32 0, .int .i64 1, .int .i64 37, .string (⟨#[97, 110, 100]⟩ : ByteArray), .int .i64 6, .int .u32 51, .int .u32 7, .int .u32 0, .int .i64 1, .int .i64 38, .string (⟨#[102, 101, 110, 99, 101]⟩ : ByteArray), .int .i64 7, .int .u32 15, .int .u32 0, .int .u32 0, .int .i64 7, .int .i64 39, .string (⟨#[102, 101, 110, 99, 101, 46, 105]⟩ : ByteArray), .int .i64 8, .int .u32 4111, .int .u32 0, .int .u32 0, .int .i64 7, .int .i64 40, .string (⟨#[101, 99, 97, 108, 108]⟩ : ByteArray), .int .i64 8, .int .u32 115, .int .u32 0, .int .u32 0, .int .i64 7, .int .i64 41, .string (⟨#[101, 98, 114, 101, 97, 107]⟩ : ByteArray), .int .i64 8, .int .u32 1048691, .int .u32 0, .int .u32 0, .int .i64 7, .int .i64 42, .string (⟨#[109, 114, 101, 116]⟩ : ByteArray), .int .i64 8, .int .u32 807403635, .int .u32 0, .int .u32 0, .int .i64 7, .int .i64 43, .string (⟨#[119, 102, 105]⟩ : ByteArray), .int .i64 8, .int .u32 273678451, .int .u32 0, .int .u32 0, .int .i64 7, .int .i64 44, .string (⟨#[115, 102, 101, 110, 99, 101, 46, 118, 109, 97]⟩ : ByteArray), .int .i64 9, .int .u32 115, .int .u32 0, .int .u32 9, .int .i64 7, .int .i64 45, .string (⟨#[99, 115, 114, 114, 119]⟩ : ByteArray), .int .i64 10, .int .u32 115, .int .u32 1, .int .u32 0, .int .i64 7, .int .i64 46, .string (⟨#[99, 115, 114, 114, 115]⟩ : ByteArray), .int .i64 10, .int .u32 115, .int .u32 2, .int .u32 0, .int .i64 7, .int .i64 47, .string (⟨#[99, 115, 114, 114, 99]⟩ : ByteArray), .int .i64 10, .int .u32 115, .int .u32 3, .int .u32 0, .int .i64 7, .int .i64 48, .string (⟨#[99, 115, 114, 114, 119, 105]⟩ : ByteArray), .int .i64 11, .int .u32 115, .int .u32 5, .int .u32 0, .int .i64 7, .int .i64 49, .string (⟨#[99, 115, 114, 114, 115, 105]⟩ : ByteArray), .int .i64 11, .int .u32 115, .int .u32 6, .int .u32 0, .int .i64 7, .int .i64 50, .string (⟨#[99, 115, 114, 114, 99, 105]⟩ : ByteArray), .int .i64 11, .int .u32 115, .int .u32 7, .int .u32 0, .int .i64 7, .int .i64 51, .string (⟨#[109, 117, 108]⟩ : ByteArray), .int .i64 6, .int .u32 51, .int .u32 0, .int .u32 1, .int .i64 1, .int .i64 52, .string (⟨#[109, 117, 108, 104]⟩ : ByteArray), .int .i64 6, .int .u32 51, .int .u32 1, .int .u32 1, .int .i64 1, .int .i64 53, .string (⟨#[109, 117, 108, 104, 115, 117]⟩ : ByteArray), .int .i64 6, .int .u32 51, .int .u32 2, .int .u32 1, .int .i64 1, .int .i64 54, .string (⟨#[109, 117, 108, 104, 117]⟩ : ByteArray), .int .i64 6, .int .u32 51, .int .u32 3, .int .u32 1, .int .i64 1, .int .i64 55, .string (⟨#[100, 105, 118]⟩ : ByteArray), .int .i64 6, .int .u32 51, .int .u32 4, .int .u32 1, .int .i64 1, .int .i64 56, .string (⟨#[100, 105, 118, 117]⟩ : ByteArray), .int .i64 6, .int .u32 51, .int .u32 5, .int .u32 1, .int .i64 1, .int .i64 57, .string (⟨#[114, 101, 109]⟩ : ByteArray), .int .i64 6, .int .u32 51, .int .u32 6, .int .u32 1, .int .i64 1, .int .i64 58, .string (⟨#[114, 101, 109, 117]⟩ : ByteArray), .int .i64 6, .int .u32 51, .int .u32 7, .int .u32 1, .int .i64 1, .int .i64 59, .string (⟨#[108, 114, 46, 119]⟩ : ByteArray), .int .i64 12, .int .u32 47, .int .u32 2, .int .u32 2, .int .i64 4, .int .i64 60, .string (⟨#[115, 99, 46, 119]⟩ : ByteArray), .int .i64 13, .int .u32 47, .int .u32 2, .int .u32 3, .int .i64 6, .int .i64 61, .string (⟨#[97, 109, 111, 115, 119, 97, 112, 46, 119]⟩ : ByteArray), .int .i64 13, .int .u32 47, .int .u32 2, .int .u32 1, .int .i64 6, .int .i64 62, .string (⟨#[97, 109, 111, 97, 100, 100, 46, 119]⟩ : ByteArray), .int .i64 13, .int .u32 47, .int .u32 2, .int .u32 0, .int .i64 6, .int .i64 63, .string (⟨#[97, 109, 111, 120, 111, 114, 46, 119]⟩ : ByteArray), .int .i64 13, .int .u32 47, .int .u32 2, .int .u32 4, .int .i64 6, .int .i64 64, .string (⟨#[97, 109, 111, 97, 110, 100, 46, 119]⟩ : ByteArray), .int .i64 13, .int .u32 47, .int .u32 2, .int .u32 12, .int .i64 6, .int .i64 65, .string (⟨#[97, 109, 111, 111, 114, 46, 119]⟩ : ByteArray), .int .i64 13, .int .u32 47, .int .u32 2, .int .u32 8, .int .i64 6, .int .i64 66, .string (⟨#[97, 109, 111, 109, 105, 110, 46, 119]⟩ : ByteArray), .int .i64 13, .int .u32 47, .int .u32 2, .int .u32 16, .int .i64 6, .int .i64 67, .string (⟨#[97, 109, 111, 109, 97, 120, 46, 119]⟩ : ByteArray), .int .i64 13, .int .u32 47, .int .u32 2, .int .u32 20, .int .i64 6, .int .i64 68, .string (⟨#[97, 109, 111, 109, 105, 110, 117, 46, 119]⟩ : ByteArray), .int .i64 13, .int .u32 47, .int .u32 2, .int .u32 24, .int .i64 6, .int .i64 69, .string (⟨#[97, 109, 111, 109, 97, 120, 117, 46, 119]⟩ : ByteArray), .int .i64 13, .int .u32 47, .int .u32 2, .int .u32 28, .int .i64 6], (0, 0)⟩ fun t70B σ_ =>
  K (.slice (some ⟨t70B, 0, none⟩) 69 69) σ_
noncomputable def isa_rows.h (K : Value → Store → Prop) : Hand := hsel []
theorem isa_rows.m_eq (K : Value → Store → Prop) (σ : Store) : (segF Pr isa_rows.H F.isa_rows isa_rows.T (isa_rows.h K) K [] σ) = isa_rows.m K σ := by kernel_rfl
theorem isa_rows.ok {K : Value → Store → Prop} {σ : Store} (h : isa_rows.m K σ) : Spec Pr F.isa_rows [] σ K := by
  rw [← isa_rows.m_eq] at h
  exact segF_spec Pr_mixed (hsel_sound fun x hx => by
    cases hx) h

/-! ### (corral/isa.row).fits -/
def isa_row_fits.H : Hints := { esc := [], cuts := [(9, [1, 21, 22], [(2, 91), (5, 105)]), (12, [1, 21, 25], [(2, 91), (5, 105)]), (21, [], [(2, 91), (5, 105)])] }
noncomputable def isa_row_fits.T : Nat → List Item := stk Pr F.isa_row_fits [(9, [1, 1, 1, 1, 0, 1, 0, 1]), (12, [1, 1, 1, 1, 0, 1, 0, 1, 1, 1]), (21, [1, 1, 1, 1, 1])]
abbrev isa_row_fits.R21 : Type := Int → ByteArray → Int → Int → Int → Int → Int → Int → Int → Int → Int → Int → Int → Store → Prop
abbrev isa_row_fits.R12 : Type := Int → Int → Bool → Int → ByteArray → Int → Int → Int → Int → Int → Int → Int → Int → Int → Int → Int → Store → Prop
abbrev isa_row_fits.R9 : Type := Int → Int → Bool → Int → ByteArray → Int → Int → Int → Int → Int → Int → Int → Int → Int → Int → Int → Store → Prop
def isa_row_fits.d21 (g : isa_row_fits.R21) : List AV → List (List Value) → Store → Prop
  | [], [[.int .i64 r0, .string r1, .int .i64 r2, .int .u32 r3, .int .u32 r4, .int .u32 r5, .int .i64 r6], [.int .u32 h0, .int .u32 h1, .int .u32 h2, .int .u32 h3, .int .u32 h4, .int .u32 h5]], σ => g r0 r1 r2 r3 r4 r5 r6 h0 h1 h2 h3 h4 h5 σ
  | _, _, _ => False
def isa_row_fits.S21 (K : Value → Store → Prop) (r0 : Int) (r1 : ByteArray) (r2 r3 r4 r5 r6 h0 h1 h2 h3 h4 h5 : Int) (σ : Store) : Prop := SndF Pr F.isa_row_fits isa_row_fits.H isa_row_fits.T K 21 [] [[.int .i64 r0, .string r1, .int .i64 r2, .int .u32 r3, .int .u32 r4, .int .u32 r5, .int .i64 r6], [.int .u32 h0, .int .u32 h1, .int .u32 h2, .int .u32 h3, .int .u32 h4, .int .u32 h5]] σ
def isa_row_fits.j21 (K : Value → Store → Prop) (r0 : Int) (r1 : ByteArray) (r2 r3 r4 r5 r6 h0 h1 h2 h3 h4 h5 : Int) (σ : Store) : Prop :=
  K (.bool (h2 == r4)) σ
def isa_row_fits.d12 (g : isa_row_fits.R12) : List AV → List (List Value) → Store → Prop
  | [.v (.int .u32 w), .v (.int .i64 t21), .v (.bool t25)], [[.int .i64 r0, .string r1, .int .i64 r2, .int .u32 r3, .int .u32 r4, .int .u32 r5, .int .i64 r6], [.int .u32 h0, .int .u32 h1, .int .u32 h2, .int .u32 h3, .int .u32 h4, .int .u32 h5]], σ => g w t21 t25 r0 r1 r2 r3 r4 r5 r6 h0 h1 h2 h3 h4 h5 σ
  | _, _, _ => False
def isa_row_fits.S12 (K : Value → Store → Prop) (w t21 : Int) (t25 : Bool) (r0 : Int) (r1 : ByteArray) (r2 r3 r4 r5 r6 h0 h1 h2 h3 h4 h5 : Int) (σ : Store) : Prop := SndF Pr F.isa_row_fits isa_row_fits.H isa_row_fits.T K 12 [.v (.int .u32 w), .v (.int .i64 t21), .v (.bool t25)] [[.int .i64 r0, .string r1, .int .i64 r2, .int .u32 r3, .int .u32 r4, .int .u32 r5, .int .i64 r6], [.int .u32 h0, .int .u32 h1, .int .u32 h2, .int .u32 h3, .int .u32 h4, .int .u32 h5]] σ
def isa_row_fits.j12 (K : Value → Store → Prop) (w t21 : Int) (t25 : Bool) (r0 : Int) (r1 : ByteArray) (r2 r3 r4 r5 r6 h0 h1 h2 h3 h4 h5 : Int) (σ : Store) : Prop :=
  cond t25
  (cond (h2 == r4)
    (K (.bool (h5 == r5)) σ)
    (K (.bool false) σ))
  (cond (t21 == 7)
    (cond (h2 == r4)
      (cond (h1 == 0)
        (cond (h3 == 0)
          (Spec Pr F.word_Bits [.int .u32 w, .int .i64 28, .int .i64 4] σ fun v σ_ => ∃ t59 : Int, v = .int .u32 t59 ∧
            K (.bool (t59 == 0)) σ_)
          (K (.bool false) σ))
        (K (.bool false) σ))
      (K (.bool false) σ))
    (cond (t21 == 9)
      (cond (h2 == r4)
        (cond (h5 == r5)
          (K (.bool (h1 == 0)) σ)
          (K (.bool false) σ))
        (K (.bool false) σ))
      (cond (t21 == 12)
        (cond (h2 == r4)
          (cond ((shrI .u32 h5 2) == r5)
            (K (.bool (h4 == 0)) σ)
            (K (.bool false) σ))
          (K (.bool false) σ))
        (cond (t21 == 13)
          (cond (h2 == r4)
            (K (.bool ((shrI .u32 h5 2) == r5)) σ)
            (K (.bool false) σ))
          (Hop (isa_row_fits.T 21) (isa_row_fits.T 21) (isa_row_fits.j21 K r0 r1 r2 r3 r4 r5 r6 h0 h1 h2 h3 h4 h5 σ))))))
def isa_row_fits.d9 (g : isa_row_fits.R9) : List AV → List (List Value) → Store → Prop
  | [.v (.int .u32 w), .v (.int .i64 t21), .v (.bool t22)], [[.int .i64 r0, .string r1, .int .i64 r2, .int .u32 r3, .int .u32 r4, .int .u32 r5, .int .i64 r6], [.int .u32 h0, .int .u32 h1, .int .u32 h2, .int .u32 h3, .int .u32 h4, .int .u32 h5]], σ => g w t21 t22 r0 r1 r2 r3 r4 r5 r6 h0 h1 h2 h3 h4 h5 σ
  | _, _, _ => False
def isa_row_fits.S9 (K : Value → Store → Prop) (w t21 : Int) (t22 : Bool) (r0 : Int) (r1 : ByteArray) (r2 r3 r4 r5 r6 h0 h1 h2 h3 h4 h5 : Int) (σ : Store) : Prop := SndF Pr F.isa_row_fits isa_row_fits.H isa_row_fits.T K 9 [.v (.int .u32 w), .v (.int .i64 t21), .v (.bool t22)] [[.int .i64 r0, .string r1, .int .i64 r2, .int .u32 r3, .int .u32 r4, .int .u32 r5, .int .i64 r6], [.int .u32 h0, .int .u32 h1, .int .u32 h2, .int .u32 h3, .int .u32 h4, .int .u32 h5]] σ
def isa_row_fits.j9 (K : Value → Store → Prop) (w t21 : Int) (t22 : Bool) (r0 : Int) (r1 : ByteArray) (r2 r3 r4 r5 r6 h0 h1 h2 h3 h4 h5 : Int) (σ : Store) : Prop :=
  cond t22
  (K (.bool true) σ)
  (cond (t21 == 5)
    (Hop (isa_row_fits.T 12) (isa_row_fits.T 12) (isa_row_fits.j12 K w t21 true r0 r1 r2 r3 r4 r5 r6 h0 h1 h2 h3 h4 h5 σ))
    (Hop (isa_row_fits.T 12) (isa_row_fits.T 12) (isa_row_fits.j12 K w t21 (t21 == 6) r0 r1 r2 r3 r4 r5 r6 h0 h1 h2 h3 h4 h5 σ)))
def isa_row_fits.m (K : Value → Store → Prop) (r0 : Int) (r1 : ByteArray) (r2 r3 r4 r5 r6 w : Int) (σ : Store) : Prop :=
  Spec Pr F.enc_Split [.int .u32 w] σ fun v σ_ => ∃ t70 : Int, ∃ t71 : Int, ∃ t72 : Int, ∃ t73 : Int, ∃ t74 : Int, ∃ t75 : Int, v = .agg #[.int .u32 t70, .int .u32 t71, .int .u32 t72, .int .u32 t73, .int .u32 t74, .int .u32 t75] ∧
  cond (r2 == 8)
  (K (.bool (w == r3)) σ_)
  (cond (t70 != r3)
    (K (.bool false) σ_)
    (cond (r2 == 0)
      (Hop (isa_row_fits.T 9) (isa_row_fits.T 9) (isa_row_fits.j9 K w r2 true r0 r1 r2 r3 r4 r5 r6 t70 t71 t72 t73 t74 t75 σ_))
      (Hop (isa_row_fits.T 9) (isa_row_fits.T 9) (isa_row_fits.j9 K w r2 (r2 == 1) r0 r1 r2 r3 r4 r5 r6 t70 t71 t72 t73 t74 t75 σ_))))
theorem isa_row_fits.d21_ok {K : Value → Store → Prop} {g : isa_row_fits.R21} (hg : ∀ r0 r1 r2 r3 r4 r5 r6 h0 h1 h2 h3 h4 h5 σ, g r0 r1 r2 r3 r4 r5 r6 h0 h1 h2 h3 h4 h5 σ → isa_row_fits.S21 K r0 r1 r2 r3 r4 r5 r6 h0 h1 h2 h3 h4 h5 σ) (vs : List AV) (bs : List (List Value)) (σ : Store) (h : isa_row_fits.d21 g vs bs σ) : SndF Pr F.isa_row_fits isa_row_fits.H isa_row_fits.T K 21 vs bs σ := by
  unfold isa_row_fits.d21 at h
  split at h
  · exact hg _ _ _ _ _ _ _ _ _ _ _ _ _ _ h
  · exact h.elim
theorem isa_row_fits.d12_ok {K : Value → Store → Prop} {g : isa_row_fits.R12} (hg : ∀ w t21 t25 r0 r1 r2 r3 r4 r5 r6 h0 h1 h2 h3 h4 h5 σ, g w t21 t25 r0 r1 r2 r3 r4 r5 r6 h0 h1 h2 h3 h4 h5 σ → isa_row_fits.S12 K w t21 t25 r0 r1 r2 r3 r4 r5 r6 h0 h1 h2 h3 h4 h5 σ) (vs : List AV) (bs : List (List Value)) (σ : Store) (h : isa_row_fits.d12 g vs bs σ) : SndF Pr F.isa_row_fits isa_row_fits.H isa_row_fits.T K 12 vs bs σ := by
  unfold isa_row_fits.d12 at h
  split at h
  · exact hg _ _ _ _ _ _ _ _ _ _ _ _ _ _ _ _ _ h
  · exact h.elim
theorem isa_row_fits.d9_ok {K : Value → Store → Prop} {g : isa_row_fits.R9} (hg : ∀ w t21 t22 r0 r1 r2 r3 r4 r5 r6 h0 h1 h2 h3 h4 h5 σ, g w t21 t22 r0 r1 r2 r3 r4 r5 r6 h0 h1 h2 h3 h4 h5 σ → isa_row_fits.S9 K w t21 t22 r0 r1 r2 r3 r4 r5 r6 h0 h1 h2 h3 h4 h5 σ) (vs : List AV) (bs : List (List Value)) (σ : Store) (h : isa_row_fits.d9 g vs bs σ) : SndF Pr F.isa_row_fits isa_row_fits.H isa_row_fits.T K 9 vs bs σ := by
  unfold isa_row_fits.d9 at h
  split at h
  · exact hg _ _ _ _ _ _ _ _ _ _ _ _ _ _ _ _ _ h
  · exact h.elim
noncomputable def isa_row_fits.h21 (K : Value → Store → Prop) : Hand := hsel []
theorem isa_row_fits.j21_eq (K : Value → Store → Prop) (r0 : Int) (r1 : ByteArray) (r2 r3 r4 r5 r6 h0 h1 h2 h3 h4 h5 : Int) (σ : Store) : (seg Pr isa_row_fits.H F.isa_row_fits isa_row_fits.T (isa_row_fits.h21 K ) K (isa_row_fits.T 21) (Ev.cutE isa_row_fits.H 21 [] [[.int .i64 r0, .string r1, .int .i64 r2, .int .u32 r3, .int .u32 r4, .int .u32 r5, .int .i64 r6], [.int .u32 h0, .int .u32 h1, .int .u32 h2, .int .u32 h3, .int .u32 h4, .int .u32 h5]]) σ) = isa_row_fits.j21 K r0 r1 r2 r3 r4 r5 r6 h0 h1 h2 h3 h4 h5 σ := by kernel_rfl
theorem isa_row_fits.j21_ok (K : Value → Store → Prop) (r0 : Int) (r1 : ByteArray) (r2 r3 r4 r5 r6 h0 h1 h2 h3 h4 h5 : Int) (σ : Store) (h : isa_row_fits.j21 K r0 r1 r2 r3 r4 r5 r6 h0 h1 h2 h3 h4 h5 σ) : isa_row_fits.S21 K r0 r1 r2 r3 r4 r5 r6 h0 h1 h2 h3 h4 h5 σ := by
  rw [← isa_row_fits.j21_eq] at h
  exact seg_snd Pr_mixed (hsel_sound fun x hx => by
    cases hx) h
noncomputable def isa_row_fits.h12 (K : Value → Store → Prop) : Hand := hsel [(21, isa_row_fits.d21 (isa_row_fits.j21 K ))]
theorem isa_row_fits.j12_eq (K : Value → Store → Prop) (w t21 : Int) (t25 : Bool) (r0 : Int) (r1 : ByteArray) (r2 r3 r4 r5 r6 h0 h1 h2 h3 h4 h5 : Int) (σ : Store) : (seg Pr isa_row_fits.H F.isa_row_fits isa_row_fits.T (isa_row_fits.h12 K ) K (isa_row_fits.T 12) (Ev.cutE isa_row_fits.H 12 [.v (.int .u32 w), .v (.int .i64 t21), .v (.bool t25)] [[.int .i64 r0, .string r1, .int .i64 r2, .int .u32 r3, .int .u32 r4, .int .u32 r5, .int .i64 r6], [.int .u32 h0, .int .u32 h1, .int .u32 h2, .int .u32 h3, .int .u32 h4, .int .u32 h5]]) σ) = isa_row_fits.j12 K w t21 t25 r0 r1 r2 r3 r4 r5 r6 h0 h1 h2 h3 h4 h5 σ := by kernel_rfl
theorem isa_row_fits.j12_ok (K : Value → Store → Prop) (w t21 : Int) (t25 : Bool) (r0 : Int) (r1 : ByteArray) (r2 r3 r4 r5 r6 h0 h1 h2 h3 h4 h5 : Int) (σ : Store) (h : isa_row_fits.j12 K w t21 t25 r0 r1 r2 r3 r4 r5 r6 h0 h1 h2 h3 h4 h5 σ) : isa_row_fits.S12 K w t21 t25 r0 r1 r2 r3 r4 r5 r6 h0 h1 h2 h3 h4 h5 σ := by
  rw [← isa_row_fits.j12_eq] at h
  exact seg_snd Pr_mixed (hsel_sound fun x hx => by
    simp only [List.mem_cons, List.not_mem_nil, or_false] at hx
    subst hx
    exact isa_row_fits.d21_ok fun _ _ _ _ _ _ _ _ _ _ _ _ _ _ h => isa_row_fits.j21_ok K _ _ _ _ _ _ _ _ _ _ _ _ _ _ h) h
noncomputable def isa_row_fits.h9 (K : Value → Store → Prop) : Hand := hsel [(12, isa_row_fits.d12 (isa_row_fits.j12 K ))]
theorem isa_row_fits.j9_eq (K : Value → Store → Prop) (w t21 : Int) (t22 : Bool) (r0 : Int) (r1 : ByteArray) (r2 r3 r4 r5 r6 h0 h1 h2 h3 h4 h5 : Int) (σ : Store) : (seg Pr isa_row_fits.H F.isa_row_fits isa_row_fits.T (isa_row_fits.h9 K ) K (isa_row_fits.T 9) (Ev.cutE isa_row_fits.H 9 [.v (.int .u32 w), .v (.int .i64 t21), .v (.bool t22)] [[.int .i64 r0, .string r1, .int .i64 r2, .int .u32 r3, .int .u32 r4, .int .u32 r5, .int .i64 r6], [.int .u32 h0, .int .u32 h1, .int .u32 h2, .int .u32 h3, .int .u32 h4, .int .u32 h5]]) σ) = isa_row_fits.j9 K w t21 t22 r0 r1 r2 r3 r4 r5 r6 h0 h1 h2 h3 h4 h5 σ := by kernel_rfl
theorem isa_row_fits.j9_ok (K : Value → Store → Prop) (w t21 : Int) (t22 : Bool) (r0 : Int) (r1 : ByteArray) (r2 r3 r4 r5 r6 h0 h1 h2 h3 h4 h5 : Int) (σ : Store) (h : isa_row_fits.j9 K w t21 t22 r0 r1 r2 r3 r4 r5 r6 h0 h1 h2 h3 h4 h5 σ) : isa_row_fits.S9 K w t21 t22 r0 r1 r2 r3 r4 r5 r6 h0 h1 h2 h3 h4 h5 σ := by
  rw [← isa_row_fits.j9_eq] at h
  exact seg_snd Pr_mixed (hsel_sound fun x hx => by
    simp only [List.mem_cons, List.not_mem_nil, or_false] at hx
    subst hx
    exact isa_row_fits.d12_ok fun _ _ _ _ _ _ _ _ _ _ _ _ _ _ _ _ _ h => isa_row_fits.j12_ok K _ _ _ _ _ _ _ _ _ _ _ _ _ _ _ _ _ h) h
noncomputable def isa_row_fits.h (K : Value → Store → Prop) : Hand := hsel [(9, isa_row_fits.d9 (isa_row_fits.j9 K ))]
theorem isa_row_fits.m_eq (K : Value → Store → Prop) (r0 : Int) (r1 : ByteArray) (r2 r3 r4 r5 r6 w : Int) (σ : Store) : (segF Pr isa_row_fits.H F.isa_row_fits isa_row_fits.T (isa_row_fits.h K) K [.agg #[.int .i64 r0, .string r1, .int .i64 r2, .int .u32 r3, .int .u32 r4, .int .u32 r5, .int .i64 r6], .int .u32 w] σ) = isa_row_fits.m K r0 r1 r2 r3 r4 r5 r6 w σ := by kernel_rfl
theorem isa_row_fits.ok {K : Value → Store → Prop} {r0 : Int} {r1 : ByteArray} {r2 r3 r4 r5 r6 w : Int} {σ : Store} (h : isa_row_fits.m K r0 r1 r2 r3 r4 r5 r6 w σ) : Spec Pr F.isa_row_fits [.agg #[.int .i64 r0, .string r1, .int .i64 r2, .int .u32 r3, .int .u32 r4, .int .u32 r5, .int .i64 r6], .int .u32 w] σ K := by
  rw [← isa_row_fits.m_eq] at h
  exact segF_spec Pr_mixed (hsel_sound fun x hx => by
    simp only [List.mem_cons, List.not_mem_nil, or_false] at hx
    subst hx
    exact isa_row_fits.d9_ok fun _ _ _ _ _ _ _ _ _ _ _ _ _ _ _ _ _ h => isa_row_fits.j9_ok K _ _ _ _ _ _ _ _ _ _ _ _ _ _ _ _ _ h) h

/-! ### (corral/isa.row).format -/
def isa_row_format.H : Hints := { esc := [], cuts := [] }
noncomputable def isa_row_format.T : Nat → List Item := stk Pr F.isa_row_format []
def isa_row_format.m (K : Value → Store → Prop) (r0 : Int) (r1 : ByteArray) (r2 r3 r4 r5 r6 : Int) (σ : Store) : Prop :=
  cond (r2 == 0)
  (K (.int .u8 85) σ)
  (cond (r2 == 1)
    (K (.int .u8 74) σ)
    (cond (r2 == 2)
      (K (.int .u8 73) σ)
      (cond (r2 == 3)
        (K (.int .u8 66) σ)
        (cond (r2 == 4)
          (K (.int .u8 83) σ)
          (K (.int .u8 0) σ)))))
noncomputable def isa_row_format.h (K : Value → Store → Prop) : Hand := hsel []
theorem isa_row_format.m_eq (K : Value → Store → Prop) (r0 : Int) (r1 : ByteArray) (r2 r3 r4 r5 r6 : Int) (σ : Store) : (segF Pr isa_row_format.H F.isa_row_format isa_row_format.T (isa_row_format.h K) K [.agg #[.int .i64 r0, .string r1, .int .i64 r2, .int .u32 r3, .int .u32 r4, .int .u32 r5, .int .i64 r6]] σ) = isa_row_format.m K r0 r1 r2 r3 r4 r5 r6 σ := by kernel_rfl
theorem isa_row_format.ok {K : Value → Store → Prop} {r0 : Int} {r1 : ByteArray} {r2 r3 r4 r5 r6 : Int} {σ : Store} (h : isa_row_format.m K r0 r1 r2 r3 r4 r5 r6 σ) : Spec Pr F.isa_row_format [.agg #[.int .i64 r0, .string r1, .int .i64 r2, .int .u32 r3, .int .u32 r4, .int .u32 r5, .int .i64 r6]] σ K := by
  rw [← isa_row_format.m_eq] at h
  exact segF_spec Pr_mixed (hsel_sound fun x hx => by
    cases hx) h

/-! ### (corral/isa.row).uses$1 -/
def isa_row_uses_1.H : Hints := { esc := [], cuts := [] }
noncomputable def isa_row_uses_1.T : Nat → List Item := stk Pr F.isa_row_uses_1 []
def isa_row_uses_1.m (K : Value → Store → Prop) (formsA : Option Addr) (formsN formsC cap0B cap0O : Nat) (σ : Store) : Prop :=
  ∃ t6 : Int, cellAt σ cap0B (cap0O + 2) = some (.int .i64 t6) ∧
  Spec Pr F.slices_Contains [.slice formsA formsN formsC, .int .i64 t6] σ fun v σ_ => ∃ t7 : Bool, v = .bool t7 ∧
  K (.bool t7) σ_
noncomputable def isa_row_uses_1.h (K : Value → Store → Prop) : Hand := hsel []
theorem isa_row_uses_1.m_eq (K : Value → Store → Prop) (formsA : Option Addr) (formsN formsC cap0B cap0O : Nat) (σ : Store) : (segF Pr isa_row_uses_1.H F.isa_row_uses_1 isa_row_uses_1.T (isa_row_uses_1.h K) K [.slice formsA formsN formsC, .pointer (some ⟨cap0B, cap0O, none⟩)] σ) = isa_row_uses_1.m K formsA formsN formsC cap0B cap0O σ := by kernel_rfl
theorem isa_row_uses_1.ok {K : Value → Store → Prop} {formsA : Option Addr} {formsN formsC cap0B cap0O : Nat} {σ : Store} (h : isa_row_uses_1.m K formsA formsN formsC cap0B cap0O σ) : Spec Pr F.isa_row_uses_1 [.slice formsA formsN formsC, .pointer (some ⟨cap0B, cap0O, none⟩)] σ K := by
  rw [← isa_row_uses_1.m_eq] at h
  exact segF_spec Pr_mixed (hsel_sound fun x hx => by
    cases hx) h

/-! ### (corral/isa.row).uses -/
def isa_row_uses.H : Hints := { esc := [1, 9, 13, 17, 20], cuts := [] }
noncomputable def isa_row_uses.T : Nat → List Item := stk Pr F.isa_row_uses []
def isa_row_uses.m (K : Value → Store → Prop) (r0 : Int) (r1 : ByteArray) (r2 r3 r4 r5 r6 : Int) (σ : Store) : Prop :=
  New σ ⟨91, [.int .i64 r0, .string r1, .int .i64 r2, .int .u32 r3, .int .u32 r4, .int .u32 r5, .int .i64 r6], (0, 0)⟩ fun rB σ_ =>
  New σ_ ⟨3, [.int .i64 3, .int .i64 4, .int .i64 7, .int .i64 8, .int .i64 9], (0, 0)⟩ fun t9B σ_1 =>
  Spec Pr F.isa_row_uses_1 [.slice (some ⟨t9B, 0, none⟩) 5 5, .pointer (some ⟨rB, 0, none⟩)] σ_1 fun v σ_2 => ∃ t10 : Bool, v = .bool t10 ∧
  New σ_2 ⟨3, [.int .i64 0, .int .i64 1, .int .i64 7, .int .i64 8, .int .i64 11], (0, 0)⟩ fun t13B σ_3 =>
  Spec Pr F.isa_row_uses_1 [.slice (some ⟨t13B, 0, none⟩) 5 5, .pointer (some ⟨rB, 0, none⟩)] σ_3 fun v1 σ_4 => ∃ t14 : Bool, v1 = .bool t14 ∧
  New σ_4 ⟨3, [.int .i64 3, .int .i64 4, .int .i64 6, .int .i64 9, .int .i64 13], (0, 0)⟩ fun t17B σ_5 =>
  Spec Pr F.isa_row_uses_1 [.slice (some ⟨t17B, 0, none⟩) 5 5, .pointer (some ⟨rB, 0, none⟩)] σ_5 fun v2 σ_6 => ∃ t18 : Bool, v2 = .bool t18 ∧
  New σ_6 ⟨3, [.int .i64 0, .int .i64 1, .int .i64 2, .int .i64 3, .int .i64 4, .int .i64 5, .int .i64 7, .int .i64 11], (0, 0)⟩ fun t20B σ_7 =>
  Spec Pr F.isa_row_uses_1 [.slice (some ⟨t20B, 0, none⟩) 8 8, .pointer (some ⟨rB, 0, none⟩)] σ_7 fun v3 σ_8 => ∃ t21 : Bool, v3 = .bool t21 ∧
  K (.tuple #[.bool (!t10), .bool (!t14), .bool t18, .bool t21]) σ_8
noncomputable def isa_row_uses.h (K : Value → Store → Prop) : Hand := hsel []
theorem isa_row_uses.m_eq (K : Value → Store → Prop) (r0 : Int) (r1 : ByteArray) (r2 r3 r4 r5 r6 : Int) (σ : Store) : (segF Pr isa_row_uses.H F.isa_row_uses isa_row_uses.T (isa_row_uses.h K) K [.agg #[.int .i64 r0, .string r1, .int .i64 r2, .int .u32 r3, .int .u32 r4, .int .u32 r5, .int .i64 r6]] σ) = isa_row_uses.m K r0 r1 r2 r3 r4 r5 r6 σ := by kernel_rfl
theorem isa_row_uses.ok {K : Value → Store → Prop} {r0 : Int} {r1 : ByteArray} {r2 r3 r4 r5 r6 : Int} {σ : Store} (h : isa_row_uses.m K r0 r1 r2 r3 r4 r5 r6 σ) : Spec Pr F.isa_row_uses [.agg #[.int .i64 r0, .string r1, .int .i64 r2, .int .u32 r3, .int .u32 r4, .int .u32 r5, .int .i64 r6]] σ K := by
  rw [← isa_row_uses.m_eq] at h
  exact segF_spec Pr_mixed (hsel_sound fun x hx => by
    cases hx) h

/-! ### (corral/isa.row).imm -/
def isa_row_imm.H : Hints := { esc := [], cuts := [] }
noncomputable def isa_row_imm.T : Nat → List Item := stk Pr F.isa_row_imm []
def isa_row_imm.m (K : Value → Store → Prop) (r0 : Int) (r1 : ByteArray) (r2 r3 r4 r5 r6 w : Int) (σ : Store) : Prop :=
  cond (r2 == 5)
  (Spec Pr F.word_Bits [.int .u32 w, .int .i64 20, .int .i64 5] σ fun v σ_ => ∃ t10 : Int, v = .int .u32 t10 ∧
    K (.int .u32 t10) σ_)
  (cond (r2 == 7)
    (Spec Pr F.word_Bits [.int .u32 w, .int .i64 20, .int .i64 8] σ fun v1 σ_1 => ∃ t14 : Int, v1 = .int .u32 t14 ∧
      K (.int .u32 t14) σ_1)
    (cond (r2 == 11)
      (Spec Pr F.word_Bits [.int .u32 w, .int .i64 15, .int .i64 5] σ fun v2 σ_2 => ∃ t18 : Int, v2 = .int .u32 t18 ∧
        K (.int .u32 t18) σ_2)
      (Spec Pr F.isa_row_format [.agg #[.int .i64 r0, .string r1, .int .i64 r2, .int .u32 r3, .int .u32 r4, .int .u32 r5, .int .i64 r6]] σ fun v3 σ_3 => ∃ t20 : Int, v3 = .int .u8 t20 ∧
        Spec Pr F.enc_Imm [.int .u8 t20, .int .u32 w] σ_3 fun v4 σ_4 => ∃ t22 : Int, v4 = .int .u32 t22 ∧
        K (.int .u32 t22) σ_4)))
noncomputable def isa_row_imm.h (K : Value → Store → Prop) : Hand := hsel []
theorem isa_row_imm.m_eq (K : Value → Store → Prop) (r0 : Int) (r1 : ByteArray) (r2 r3 r4 r5 r6 w : Int) (σ : Store) : (segF Pr isa_row_imm.H F.isa_row_imm isa_row_imm.T (isa_row_imm.h K) K [.agg #[.int .i64 r0, .string r1, .int .i64 r2, .int .u32 r3, .int .u32 r4, .int .u32 r5, .int .i64 r6], .int .u32 w] σ) = isa_row_imm.m K r0 r1 r2 r3 r4 r5 r6 w σ := by kernel_rfl
theorem isa_row_imm.ok {K : Value → Store → Prop} {r0 : Int} {r1 : ByteArray} {r2 r3 r4 r5 r6 w : Int} {σ : Store} (h : isa_row_imm.m K r0 r1 r2 r3 r4 r5 r6 w σ) : Spec Pr F.isa_row_imm [.agg #[.int .i64 r0, .string r1, .int .i64 r2, .int .u32 r3, .int .u32 r4, .int .u32 r5, .int .i64 r6], .int .u32 w] σ K := by
  rw [← isa_row_imm.m_eq] at h
  exact segF_spec Pr_mixed (hsel_sound fun x hx => by
    cases hx) h

/-! ### (corral/isa.row).lay -/
def isa_row_lay.H : Hints := { esc := [], cuts := [] }
noncomputable def isa_row_lay.T : Nat → List Item := stk Pr F.isa_row_lay []
def isa_row_lay.m (K : Value → Store → Prop) (r0 : Int) (r1 : ByteArray) (r2 r3 r4 r5 r6 imm : Int) (σ : Store) : Prop :=
  cond (r2 == 5)
  (K (.tuple #[.int .u32 (shlI .u32 imm 20), .bool (decide (imm < 32))]) σ)
  (cond (r2 == 7)
    (K (.tuple #[.int .u32 (shlI .u32 imm 20), .bool (decide (imm < 256))]) σ)
    (cond (r2 == 11)
      (K (.tuple #[.int .u32 (shlI .u32 imm 15), .bool (decide (imm < 32))]) σ)
      (Spec Pr F.isa_row_format [.agg #[.int .i64 r0, .string r1, .int .i64 r2, .int .u32 r3, .int .u32 r4, .int .u32 r5, .int .i64 r6]] σ fun v σ_ => ∃ t27 : Int, v = .int .u8 t27 ∧
        Spec Pr F.enc_Lay [.int .u8 t27, .int .u32 imm] σ_ fun v1 σ_1 => ∃ t29a : Int, ∃ t29b : Bool, v1 = .tuple #[.int .u32 t29a, .bool t29b] ∧
        K (.tuple #[.int .u32 t29a, .bool t29b]) σ_1)))
noncomputable def isa_row_lay.h (K : Value → Store → Prop) : Hand := hsel []
theorem isa_row_lay.m_eq (K : Value → Store → Prop) (r0 : Int) (r1 : ByteArray) (r2 r3 r4 r5 r6 imm : Int) (σ : Store) : (segF Pr isa_row_lay.H F.isa_row_lay isa_row_lay.T (isa_row_lay.h K) K [.agg #[.int .i64 r0, .string r1, .int .i64 r2, .int .u32 r3, .int .u32 r4, .int .u32 r5, .int .i64 r6], .int .u32 imm] σ) = isa_row_lay.m K r0 r1 r2 r3 r4 r5 r6 imm σ := by kernel_rfl
theorem isa_row_lay.ok {K : Value → Store → Prop} {r0 : Int} {r1 : ByteArray} {r2 r3 r4 r5 r6 imm : Int} {σ : Store} (h : isa_row_lay.m K r0 r1 r2 r3 r4 r5 r6 imm σ) : Spec Pr F.isa_row_lay [.agg #[.int .i64 r0, .string r1, .int .i64 r2, .int .u32 r3, .int .u32 r4, .int .u32 r5, .int .i64 r6], .int .u32 imm] σ K := by
  rw [← isa_row_lay.m_eq] at h
  exact segF_spec Pr_mixed (hsel_sound fun x hx => by
    cases hx) h

/-! ### (corral/isa.row).decode -/
def isa_row_decode.H : Hints := { esc := [], cuts := [(6, [1, 8, 9, 10], [(2, 91), (4, 24), (5, 105), (6, 24)]), (8, [1, 9, 10], [(2, 91), (4, 24), (5, 105), (6, 24)]), (10, [1, 10], [(2, 91), (4, 24), (6, 24)]), (12, [1], [(2, 91), (4, 24), (6, 24)]), (15, [1, 44, 45], [(4, 24), (6, 24)]), (18, [1, 52], [(4, 24), (6, 24)])] }
noncomputable def isa_row_decode.T : Nat → List Item := stk Pr F.isa_row_decode [(6, [1, 1, 1, 1, 1]), (8, [1, 1, 1, 1, 1, 1]), (10, [1, 1, 1, 1, 1, 1, 1]), (12, [1, 1, 1, 1, 1, 1, 1, 1]), (15, [1, 1, 1, 1, 1, 1, 1, 1, 0, 1, 0, 1]), (18, [1, 1, 1, 1, 1, 1, 1, 1, 0, 1, 0, 1, 1, 1])]
abbrev isa_row_decode.R18 : Type := Int → Bool → Int → Int → Int → Int → Int → Int → Bool → Bool → Int → Int → Int → Int → Int → Int → Bool → Bool → Store → Prop
abbrev isa_row_decode.R15 : Type := Int → Int → Bool → Int → Int → Int → Int → Int → Int → Bool → Bool → Int → Int → Int → Int → Int → Int → Bool → Bool → Store → Prop
abbrev isa_row_decode.R12 : Type := Int → Int → ByteArray → Int → Int → Int → Int → Int → Int → Int → Int → Int → Int → Int → Bool → Bool → Int → Int → Int → Int → Int → Int → Bool → Bool → Store → Prop
abbrev isa_row_decode.R10 : Type := Int → Bool → Int → ByteArray → Int → Int → Int → Int → Int → Int → Int → Int → Int → Int → Int → Bool → Bool → Int → Int → Int → Int → Int → Int → Bool → Bool → Store → Prop
abbrev isa_row_decode.R8 : Type := Int → Bool → Bool → Int → ByteArray → Int → Int → Int → Int → Int → Int → Int → Int → Int → Int → Int → Bool → Bool → Int → Int → Int → Int → Int → Int → Int → Int → Int → Int → Int → Int → Bool → Bool → Store → Prop
abbrev isa_row_decode.R6 : Type := Int → Bool → Bool → Bool → Int → ByteArray → Int → Int → Int → Int → Int → Int → Int → Int → Int → Int → Int → Bool → Bool → Int → Int → Int → Int → Int → Int → Int → Int → Int → Int → Int → Int → Bool → Bool → Store → Prop
def isa_row_decode.d18 (g : isa_row_decode.R18) : List AV → List (List Value) → Store → Prop
  | [.v (.int .u32 w), .v (.bool t52)], [[.int .i64 t40, .int .i64 t41, .int .i64 t42, .int .i64 t43, .int .i64 t44, .int .u32 t45, .bool t46, .bool t47], [.int .i64 i0, .int .i64 i1, .int .i64 i2, .int .i64 i3, .int .i64 i4, .int .u32 i5, .bool i6, .bool i7]], σ => g w t52 t40 t41 t42 t43 t44 t45 t46 t47 i0 i1 i2 i3 i4 i5 i6 i7 σ
  | _, _, _ => False
def isa_row_decode.S18 (K : Value → Store → Prop) (w : Int) (t52 : Bool) (t40 t41 t42 t43 t44 t45 : Int) (t46 t47 : Bool) (i0 i1 i2 i3 i4 i5 : Int) (i6 i7 : Bool) (σ : Store) : Prop := SndF Pr F.isa_row_decode isa_row_decode.H isa_row_decode.T K 18 [.v (.int .u32 w), .v (.bool t52)] [[.int .i64 t40, .int .i64 t41, .int .i64 t42, .int .i64 t43, .int .i64 t44, .int .u32 t45, .bool t46, .bool t47], [.int .i64 i0, .int .i64 i1, .int .i64 i2, .int .i64 i3, .int .i64 i4, .int .u32 i5, .bool i6, .bool i7]] σ
def isa_row_decode.j18 (K : Value → Store → Prop) (w : Int) (t52 : Bool) (t40 t41 t42 t43 t44 t45 : Int) (t46 t47 : Bool) (i0 i1 i2 i3 i4 i5 : Int) (i6 i7 : Bool) (σ : Store) : Prop :=
  cond t52
  (Spec Pr F.word_Bits [.int .u32 w, .int .i64 26, .int .i64 1] σ fun v σ_ => ∃ t56 : Int, v = .int .u32 t56 ∧
    Spec Pr F.word_Bits [.int .u32 w, .int .i64 25, .int .i64 1] σ_ fun v1 σ_1 => ∃ t59 : Int, v1 = .int .u32 t59 ∧
    K (.agg #[.int .i64 i0, .int .i64 i1, .int .i64 i2, .int .i64 i3, .int .i64 i4, .int .u32 i5, .bool (t56 == 1), .bool (t59 == 1)]) σ_1)
  (K (.agg #[.int .i64 i0, .int .i64 i1, .int .i64 i2, .int .i64 i3, .int .i64 i4, .int .u32 i5, .bool i6, .bool i7]) σ)
def isa_row_decode.d15 (g : isa_row_decode.R15) : List AV → List (List Value) → Store → Prop
  | [.v (.int .u32 w), .v (.int .i64 t44), .v (.bool t45)], [[.int .i64 t40, .int .i64 t41, .int .i64 t42, .int .i64 t43, .int .i64 t44_1, .int .u32 t45_1, .bool t46, .bool t47], [.int .i64 i0, .int .i64 i1, .int .i64 i2, .int .i64 i3, .int .i64 i4, .int .u32 i5, .bool i6, .bool i7]], σ => g w t44 t45 t40 t41 t42 t43 t44_1 t45_1 t46 t47 i0 i1 i2 i3 i4 i5 i6 i7 σ
  | _, _, _ => False
def isa_row_decode.S15 (K : Value → Store → Prop) (w t44 : Int) (t45 : Bool) (t40 t41 t42 t43 t44_1 t45_1 : Int) (t46 t47 : Bool) (i0 i1 i2 i3 i4 i5 : Int) (i6 i7 : Bool) (σ : Store) : Prop := SndF Pr F.isa_row_decode isa_row_decode.H isa_row_decode.T K 15 [.v (.int .u32 w), .v (.int .i64 t44), .v (.bool t45)] [[.int .i64 t40, .int .i64 t41, .int .i64 t42, .int .i64 t43, .int .i64 t44_1, .int .u32 t45_1, .bool t46, .bool t47], [.int .i64 i0, .int .i64 i1, .int .i64 i2, .int .i64 i3, .int .i64 i4, .int .u32 i5, .bool i6, .bool i7]] σ
def isa_row_decode.j15 (K : Value → Store → Prop) (w t44 : Int) (t45 : Bool) (t40 t41 t42 t43 t44_1 t45_1 : Int) (t46 t47 : Bool) (i0 i1 i2 i3 i4 i5 : Int) (i6 i7 : Bool) (σ : Store) : Prop :=
  cond t45
  (Spec Pr F.word_Bits [.int .u32 w, .int .i64 20, .int .i64 12] σ fun v σ_ => ∃ t49 : Int, v = .int .u32 t49 ∧
    K (.agg #[.int .i64 i0, .int .i64 i1, .int .i64 i2, .int .i64 i3, .int .i64 (IntKind.wrap .i64 t49), .int .u32 i5, .bool i6, .bool i7]) σ_)
  (cond (t44 == 12)
    (Hop (isa_row_decode.T 18) (isa_row_decode.T 18) (isa_row_decode.j18 K w true t40 t41 t42 t43 t44_1 t45_1 t46 t47 i0 i1 i2 i3 i4 i5 i6 i7 σ))
    (Hop (isa_row_decode.T 18) (isa_row_decode.T 18) (isa_row_decode.j18 K w (t44 == 13) t40 t41 t42 t43 t44_1 t45_1 t46 t47 i0 i1 i2 i3 i4 i5 i6 i7 σ)))
def isa_row_decode.d12 (g : isa_row_decode.R12) : List AV → List (List Value) → Store → Prop
  | [.v (.int .u32 w)], [[.int .i64 r0, .string r1, .int .i64 r2, .int .u32 r3, .int .u32 r4, .int .u32 r5, .int .i64 r6], [.int .i64 t40, .int .i64 t41, .int .i64 t42, .int .i64 t43, .int .i64 t44, .int .u32 t45, .bool t46, .bool t47], [.int .i64 i0, .int .i64 i1, .int .i64 i2, .int .i64 i3, .int .i64 i4, .int .u32 i5, .bool i6, .bool i7]], σ => g w r0 r1 r2 r3 r4 r5 r6 t40 t41 t42 t43 t44 t45 t46 t47 i0 i1 i2 i3 i4 i5 i6 i7 σ
  | _, _, _ => False
def isa_row_decode.S12 (K : Value → Store → Prop) (w r0 : Int) (r1 : ByteArray) (r2 r3 r4 r5 r6 t40 t41 t42 t43 t44 t45 : Int) (t46 t47 : Bool) (i0 i1 i2 i3 i4 i5 : Int) (i6 i7 : Bool) (σ : Store) : Prop := SndF Pr F.isa_row_decode isa_row_decode.H isa_row_decode.T K 12 [.v (.int .u32 w)] [[.int .i64 r0, .string r1, .int .i64 r2, .int .u32 r3, .int .u32 r4, .int .u32 r5, .int .i64 r6], [.int .i64 t40, .int .i64 t41, .int .i64 t42, .int .i64 t43, .int .i64 t44, .int .u32 t45, .bool t46, .bool t47], [.int .i64 i0, .int .i64 i1, .int .i64 i2, .int .i64 i3, .int .i64 i4, .int .u32 i5, .bool i6, .bool i7]] σ
def isa_row_decode.j12 (K : Value → Store → Prop) (w r0 : Int) (r1 : ByteArray) (r2 r3 r4 r5 r6 t40 t41 t42 t43 t44 t45 : Int) (t46 t47 : Bool) (i0 i1 i2 i3 i4 i5 : Int) (i6 i7 : Bool) (σ : Store) : Prop :=
  cond (r2 == 10)
  (Hop (isa_row_decode.T 15) (isa_row_decode.T 15) (isa_row_decode.j15 K w r2 true t40 t41 t42 t43 t44 t45 t46 t47 i0 i1 i2 i3 i4 i5 i6 i7 σ))
  (Hop (isa_row_decode.T 15) (isa_row_decode.T 15) (isa_row_decode.j15 K w r2 (r2 == 11) t40 t41 t42 t43 t44 t45 t46 t47 i0 i1 i2 i3 i4 i5 i6 i7 σ))
def isa_row_decode.d10 (g : isa_row_decode.R10) : List AV → List (List Value) → Store → Prop
  | [.v (.int .u32 w), .v (.bool imm)], [[.int .i64 r0, .string r1, .int .i64 r2, .int .u32 r3, .int .u32 r4, .int .u32 r5, .int .i64 r6], [.int .i64 t40, .int .i64 t41, .int .i64 t42, .int .i64 t43, .int .i64 t44, .int .u32 t45, .bool t46, .bool t47], [.int .i64 i0, .int .i64 i1, .int .i64 i2, .int .i64 i3, .int .i64 i4, .int .u32 i5, .bool i6, .bool i7]], σ => g w imm r0 r1 r2 r3 r4 r5 r6 t40 t41 t42 t43 t44 t45 t46 t47 i0 i1 i2 i3 i4 i5 i6 i7 σ
  | _, _, _ => False
def isa_row_decode.S10 (K : Value → Store → Prop) (w : Int) (imm : Bool) (r0 : Int) (r1 : ByteArray) (r2 r3 r4 r5 r6 t40 t41 t42 t43 t44 t45 : Int) (t46 t47 : Bool) (i0 i1 i2 i3 i4 i5 : Int) (i6 i7 : Bool) (σ : Store) : Prop := SndF Pr F.isa_row_decode isa_row_decode.H isa_row_decode.T K 10 [.v (.int .u32 w), .v (.bool imm)] [[.int .i64 r0, .string r1, .int .i64 r2, .int .u32 r3, .int .u32 r4, .int .u32 r5, .int .i64 r6], [.int .i64 t40, .int .i64 t41, .int .i64 t42, .int .i64 t43, .int .i64 t44, .int .u32 t45, .bool t46, .bool t47], [.int .i64 i0, .int .i64 i1, .int .i64 i2, .int .i64 i3, .int .i64 i4, .int .u32 i5, .bool i6, .bool i7]] σ
def isa_row_decode.j10 (K : Value → Store → Prop) (w : Int) (imm : Bool) (r0 : Int) (r1 : ByteArray) (r2 r3 r4 r5 r6 t40 t41 t42 t43 t44 t45 : Int) (t46 t47 : Bool) (i0 i1 i2 i3 i4 i5 : Int) (i6 i7 : Bool) (σ : Store) : Prop :=
  cond imm
  (Spec Pr F.isa_row_imm [.agg #[.int .i64 r0, .string r1, .int .i64 r2, .int .u32 r3, .int .u32 r4, .int .u32 r5, .int .i64 r6], .int .u32 w] σ fun v σ_ => ∃ t41_1 : Int, v = .int .u32 t41_1 ∧
    Hop (isa_row_decode.T 12) (isa_row_decode.T 12) (isa_row_decode.j12 K w r0 r1 r2 r3 r4 r5 r6 t40 t41 t42 t43 t44 t45 t46 t47 i0 i1 i2 i3 i4 t41_1 i6 i7 σ_))
  (Hop (isa_row_decode.T 12) (isa_row_decode.T 12) (isa_row_decode.j12 K w r0 r1 r2 r3 r4 r5 r6 t40 t41 t42 t43 t44 t45 t46 t47 i0 i1 i2 i3 i4 i5 i6 i7 σ))
def isa_row_decode.d8 (g : isa_row_decode.R8) : List AV → List (List Value) → Store → Prop
  | [.v (.int .u32 w), .v (.bool rs2), .v (.bool imm)], [[.int .i64 r0, .string r1, .int .i64 r2, .int .u32 r3, .int .u32 r4, .int .u32 r5, .int .i64 r6], [.int .i64 t40, .int .i64 t41, .int .i64 t42, .int .i64 t43, .int .i64 t44, .int .u32 t45, .bool t46, .bool t47], [.int .u32 h0, .int .u32 h1, .int .u32 h2, .int .u32 h3, .int .u32 h4, .int .u32 h5], [.int .i64 i0, .int .i64 i1, .int .i64 i2, .int .i64 i3, .int .i64 i4, .int .u32 i5, .bool i6, .bool i7]], σ => g w rs2 imm r0 r1 r2 r3 r4 r5 r6 t40 t41 t42 t43 t44 t45 t46 t47 h0 h1 h2 h3 h4 h5 i0 i1 i2 i3 i4 i5 i6 i7 σ
  | _, _, _ => False
def isa_row_decode.S8 (K : Value → Store → Prop) (w : Int) (rs2 imm : Bool) (r0 : Int) (r1 : ByteArray) (r2 r3 r4 r5 r6 t40 t41 t42 t43 t44 t45 : Int) (t46 t47 : Bool) (h0 h1 h2 h3 h4 h5 i0 i1 i2 i3 i4 i5 : Int) (i6 i7 : Bool) (σ : Store) : Prop := SndF Pr F.isa_row_decode isa_row_decode.H isa_row_decode.T K 8 [.v (.int .u32 w), .v (.bool rs2), .v (.bool imm)] [[.int .i64 r0, .string r1, .int .i64 r2, .int .u32 r3, .int .u32 r4, .int .u32 r5, .int .i64 r6], [.int .i64 t40, .int .i64 t41, .int .i64 t42, .int .i64 t43, .int .i64 t44, .int .u32 t45, .bool t46, .bool t47], [.int .u32 h0, .int .u32 h1, .int .u32 h2, .int .u32 h3, .int .u32 h4, .int .u32 h5], [.int .i64 i0, .int .i64 i1, .int .i64 i2, .int .i64 i3, .int .i64 i4, .int .u32 i5, .bool i6, .bool i7]] σ
def isa_row_decode.j8 (K : Value → Store → Prop) (w : Int) (rs2 imm : Bool) (r0 : Int) (r1 : ByteArray) (r2 r3 r4 r5 r6 t40 t41 t42 t43 t44 t45 : Int) (t46 t47 : Bool) (h0 h1 h2 h3 h4 h5 i0 i1 i2 i3 i4 i5 : Int) (i6 i7 : Bool) (σ : Store) : Prop :=
  cond rs2
  (Hop (isa_row_decode.T 10) (isa_row_decode.T 10) (isa_row_decode.j10 K w imm r0 r1 r2 r3 r4 r5 r6 t40 t41 t42 t43 t44 t45 t46 t47 i0 i1 i2 (IntKind.wrap .i64 h4) i4 i5 i6 i7 σ))
  (Hop (isa_row_decode.T 10) (isa_row_decode.T 10) (isa_row_decode.j10 K w imm r0 r1 r2 r3 r4 r5 r6 t40 t41 t42 t43 t44 t45 t46 t47 i0 i1 i2 i3 i4 i5 i6 i7 σ))
def isa_row_decode.d6 (g : isa_row_decode.R6) : List AV → List (List Value) → Store → Prop
  | [.v (.int .u32 w), .v (.bool rs1), .v (.bool rs2), .v (.bool imm)], [[.int .i64 r0, .string r1, .int .i64 r2, .int .u32 r3, .int .u32 r4, .int .u32 r5, .int .i64 r6], [.int .i64 t40, .int .i64 t41, .int .i64 t42, .int .i64 t43, .int .i64 t44, .int .u32 t45, .bool t46, .bool t47], [.int .u32 h0, .int .u32 h1, .int .u32 h2, .int .u32 h3, .int .u32 h4, .int .u32 h5], [.int .i64 i0, .int .i64 i1, .int .i64 i2, .int .i64 i3, .int .i64 i4, .int .u32 i5, .bool i6, .bool i7]], σ => g w rs1 rs2 imm r0 r1 r2 r3 r4 r5 r6 t40 t41 t42 t43 t44 t45 t46 t47 h0 h1 h2 h3 h4 h5 i0 i1 i2 i3 i4 i5 i6 i7 σ
  | _, _, _ => False
def isa_row_decode.S6 (K : Value → Store → Prop) (w : Int) (rs1 rs2 imm : Bool) (r0 : Int) (r1 : ByteArray) (r2 r3 r4 r5 r6 t40 t41 t42 t43 t44 t45 : Int) (t46 t47 : Bool) (h0 h1 h2 h3 h4 h5 i0 i1 i2 i3 i4 i5 : Int) (i6 i7 : Bool) (σ : Store) : Prop := SndF Pr F.isa_row_decode isa_row_decode.H isa_row_decode.T K 6 [.v (.int .u32 w), .v (.bool rs1), .v (.bool rs2), .v (.bool imm)] [[.int .i64 r0, .string r1, .int .i64 r2, .int .u32 r3, .int .u32 r4, .int .u32 r5, .int .i64 r6], [.int .i64 t40, .int .i64 t41, .int .i64 t42, .int .i64 t43, .int .i64 t44, .int .u32 t45, .bool t46, .bool t47], [.int .u32 h0, .int .u32 h1, .int .u32 h2, .int .u32 h3, .int .u32 h4, .int .u32 h5], [.int .i64 i0, .int .i64 i1, .int .i64 i2, .int .i64 i3, .int .i64 i4, .int .u32 i5, .bool i6, .bool i7]] σ
def isa_row_decode.j6 (K : Value → Store → Prop) (w : Int) (rs1 rs2 imm : Bool) (r0 : Int) (r1 : ByteArray) (r2 r3 r4 r5 r6 t40 t41 t42 t43 t44 t45 : Int) (t46 t47 : Bool) (h0 h1 h2 h3 h4 h5 i0 i1 i2 i3 i4 i5 : Int) (i6 i7 : Bool) (σ : Store) : Prop :=
  cond rs1
  (Hop (isa_row_decode.T 8) (isa_row_decode.T 8) (isa_row_decode.j8 K w rs2 imm r0 r1 r2 r3 r4 r5 r6 t40 t41 t42 t43 t44 t45 t46 t47 h0 h1 h2 h3 h4 h5 i0 i1 (IntKind.wrap .i64 h3) i3 i4 i5 i6 i7 σ))
  (Hop (isa_row_decode.T 8) (isa_row_decode.T 8) (isa_row_decode.j8 K w rs2 imm r0 r1 r2 r3 r4 r5 r6 t40 t41 t42 t43 t44 t45 t46 t47 h0 h1 h2 h3 h4 h5 i0 i1 i2 i3 i4 i5 i6 i7 σ))
def isa_row_decode.m (K : Value → Store → Prop) (r0 : Int) (r1 : ByteArray) (r2 r3 r4 r5 r6 w : Int) (σ : Store) : Prop :=
  Spec Pr F.enc_Split [.int .u32 w] σ fun v σ_ => ∃ t120 : Int, ∃ t121 : Int, ∃ t122 : Int, ∃ t123 : Int, ∃ t124 : Int, ∃ t125 : Int, v = .agg #[.int .u32 t120, .int .u32 t121, .int .u32 t122, .int .u32 t123, .int .u32 t124, .int .u32 t125] ∧
  Spec Pr F.isa_row_uses [.agg #[.int .i64 r0, .string r1, .int .i64 r2, .int .u32 r3, .int .u32 r4, .int .u32 r5, .int .i64 r6]] σ_ fun v1 σ_1 => ∃ t18a : Bool, ∃ t18b : Bool, ∃ t18c : Bool, ∃ t18d : Bool, v1 = .tuple #[.bool t18a, .bool t18b, .bool t18c, .bool t18d] ∧
  cond t18a
  (Hop (isa_row_decode.T 6) (isa_row_decode.T 6) (isa_row_decode.j6 K w t18b t18c t18d r0 r1 r2 r3 r4 r5 r6 0 0 0 0 0 0 false false t120 t121 t122 t123 t124 t125 r0 (IntKind.wrap .i64 t121) 0 0 0 0 false false σ_1))
  (Hop (isa_row_decode.T 6) (isa_row_decode.T 6) (isa_row_decode.j6 K w t18b t18c t18d r0 r1 r2 r3 r4 r5 r6 0 0 0 0 0 0 false false t120 t121 t122 t123 t124 t125 r0 0 0 0 0 0 false false σ_1))
theorem isa_row_decode.d18_ok {K : Value → Store → Prop} {g : isa_row_decode.R18} (hg : ∀ w t52 t40 t41 t42 t43 t44 t45 t46 t47 i0 i1 i2 i3 i4 i5 i6 i7 σ, g w t52 t40 t41 t42 t43 t44 t45 t46 t47 i0 i1 i2 i3 i4 i5 i6 i7 σ → isa_row_decode.S18 K w t52 t40 t41 t42 t43 t44 t45 t46 t47 i0 i1 i2 i3 i4 i5 i6 i7 σ) (vs : List AV) (bs : List (List Value)) (σ : Store) (h : isa_row_decode.d18 g vs bs σ) : SndF Pr F.isa_row_decode isa_row_decode.H isa_row_decode.T K 18 vs bs σ := by
  unfold isa_row_decode.d18 at h
  split at h
  · exact hg _ _ _ _ _ _ _ _ _ _ _ _ _ _ _ _ _ _ _ h
  · exact h.elim
theorem isa_row_decode.d15_ok {K : Value → Store → Prop} {g : isa_row_decode.R15} (hg : ∀ w t44 t45 t40 t41 t42 t43 t44_1 t45_1 t46 t47 i0 i1 i2 i3 i4 i5 i6 i7 σ, g w t44 t45 t40 t41 t42 t43 t44_1 t45_1 t46 t47 i0 i1 i2 i3 i4 i5 i6 i7 σ → isa_row_decode.S15 K w t44 t45 t40 t41 t42 t43 t44_1 t45_1 t46 t47 i0 i1 i2 i3 i4 i5 i6 i7 σ) (vs : List AV) (bs : List (List Value)) (σ : Store) (h : isa_row_decode.d15 g vs bs σ) : SndF Pr F.isa_row_decode isa_row_decode.H isa_row_decode.T K 15 vs bs σ := by
  unfold isa_row_decode.d15 at h
  split at h
  · exact hg _ _ _ _ _ _ _ _ _ _ _ _ _ _ _ _ _ _ _ _ h
  · exact h.elim
theorem isa_row_decode.d12_ok {K : Value → Store → Prop} {g : isa_row_decode.R12} (hg : ∀ w r0 r1 r2 r3 r4 r5 r6 t40 t41 t42 t43 t44 t45 t46 t47 i0 i1 i2 i3 i4 i5 i6 i7 σ, g w r0 r1 r2 r3 r4 r5 r6 t40 t41 t42 t43 t44 t45 t46 t47 i0 i1 i2 i3 i4 i5 i6 i7 σ → isa_row_decode.S12 K w r0 r1 r2 r3 r4 r5 r6 t40 t41 t42 t43 t44 t45 t46 t47 i0 i1 i2 i3 i4 i5 i6 i7 σ) (vs : List AV) (bs : List (List Value)) (σ : Store) (h : isa_row_decode.d12 g vs bs σ) : SndF Pr F.isa_row_decode isa_row_decode.H isa_row_decode.T K 12 vs bs σ := by
  unfold isa_row_decode.d12 at h
  split at h
  · exact hg _ _ _ _ _ _ _ _ _ _ _ _ _ _ _ _ _ _ _ _ _ _ _ _ _ h
  · exact h.elim
theorem isa_row_decode.d10_ok {K : Value → Store → Prop} {g : isa_row_decode.R10} (hg : ∀ w imm r0 r1 r2 r3 r4 r5 r6 t40 t41 t42 t43 t44 t45 t46 t47 i0 i1 i2 i3 i4 i5 i6 i7 σ, g w imm r0 r1 r2 r3 r4 r5 r6 t40 t41 t42 t43 t44 t45 t46 t47 i0 i1 i2 i3 i4 i5 i6 i7 σ → isa_row_decode.S10 K w imm r0 r1 r2 r3 r4 r5 r6 t40 t41 t42 t43 t44 t45 t46 t47 i0 i1 i2 i3 i4 i5 i6 i7 σ) (vs : List AV) (bs : List (List Value)) (σ : Store) (h : isa_row_decode.d10 g vs bs σ) : SndF Pr F.isa_row_decode isa_row_decode.H isa_row_decode.T K 10 vs bs σ := by
  unfold isa_row_decode.d10 at h
  split at h
  · exact hg _ _ _ _ _ _ _ _ _ _ _ _ _ _ _ _ _ _ _ _ _ _ _ _ _ _ h
  · exact h.elim
theorem isa_row_decode.d8_ok {K : Value → Store → Prop} {g : isa_row_decode.R8} (hg : ∀ w rs2 imm r0 r1 r2 r3 r4 r5 r6 t40 t41 t42 t43 t44 t45 t46 t47 h0 h1 h2 h3 h4 h5 i0 i1 i2 i3 i4 i5 i6 i7 σ, g w rs2 imm r0 r1 r2 r3 r4 r5 r6 t40 t41 t42 t43 t44 t45 t46 t47 h0 h1 h2 h3 h4 h5 i0 i1 i2 i3 i4 i5 i6 i7 σ → isa_row_decode.S8 K w rs2 imm r0 r1 r2 r3 r4 r5 r6 t40 t41 t42 t43 t44 t45 t46 t47 h0 h1 h2 h3 h4 h5 i0 i1 i2 i3 i4 i5 i6 i7 σ) (vs : List AV) (bs : List (List Value)) (σ : Store) (h : isa_row_decode.d8 g vs bs σ) : SndF Pr F.isa_row_decode isa_row_decode.H isa_row_decode.T K 8 vs bs σ := by
  unfold isa_row_decode.d8 at h
  split at h
  · exact hg _ _ _ _ _ _ _ _ _ _ _ _ _ _ _ _ _ _ _ _ _ _ _ _ _ _ _ _ _ _ _ _ _ h
  · exact h.elim
theorem isa_row_decode.d6_ok {K : Value → Store → Prop} {g : isa_row_decode.R6} (hg : ∀ w rs1 rs2 imm r0 r1 r2 r3 r4 r5 r6 t40 t41 t42 t43 t44 t45 t46 t47 h0 h1 h2 h3 h4 h5 i0 i1 i2 i3 i4 i5 i6 i7 σ, g w rs1 rs2 imm r0 r1 r2 r3 r4 r5 r6 t40 t41 t42 t43 t44 t45 t46 t47 h0 h1 h2 h3 h4 h5 i0 i1 i2 i3 i4 i5 i6 i7 σ → isa_row_decode.S6 K w rs1 rs2 imm r0 r1 r2 r3 r4 r5 r6 t40 t41 t42 t43 t44 t45 t46 t47 h0 h1 h2 h3 h4 h5 i0 i1 i2 i3 i4 i5 i6 i7 σ) (vs : List AV) (bs : List (List Value)) (σ : Store) (h : isa_row_decode.d6 g vs bs σ) : SndF Pr F.isa_row_decode isa_row_decode.H isa_row_decode.T K 6 vs bs σ := by
  unfold isa_row_decode.d6 at h
  split at h
  · exact hg _ _ _ _ _ _ _ _ _ _ _ _ _ _ _ _ _ _ _ _ _ _ _ _ _ _ _ _ _ _ _ _ _ _ h
  · exact h.elim
noncomputable def isa_row_decode.h18 (K : Value → Store → Prop) : Hand := hsel []
theorem isa_row_decode.j18_eq (K : Value → Store → Prop) (w : Int) (t52 : Bool) (t40 t41 t42 t43 t44 t45 : Int) (t46 t47 : Bool) (i0 i1 i2 i3 i4 i5 : Int) (i6 i7 : Bool) (σ : Store) : (seg Pr isa_row_decode.H F.isa_row_decode isa_row_decode.T (isa_row_decode.h18 K ) K (isa_row_decode.T 18) (Ev.cutE isa_row_decode.H 18 [.v (.int .u32 w), .v (.bool t52)] [[.int .i64 t40, .int .i64 t41, .int .i64 t42, .int .i64 t43, .int .i64 t44, .int .u32 t45, .bool t46, .bool t47], [.int .i64 i0, .int .i64 i1, .int .i64 i2, .int .i64 i3, .int .i64 i4, .int .u32 i5, .bool i6, .bool i7]]) σ) = isa_row_decode.j18 K w t52 t40 t41 t42 t43 t44 t45 t46 t47 i0 i1 i2 i3 i4 i5 i6 i7 σ := by kernel_rfl
theorem isa_row_decode.j18_ok (K : Value → Store → Prop) (w : Int) (t52 : Bool) (t40 t41 t42 t43 t44 t45 : Int) (t46 t47 : Bool) (i0 i1 i2 i3 i4 i5 : Int) (i6 i7 : Bool) (σ : Store) (h : isa_row_decode.j18 K w t52 t40 t41 t42 t43 t44 t45 t46 t47 i0 i1 i2 i3 i4 i5 i6 i7 σ) : isa_row_decode.S18 K w t52 t40 t41 t42 t43 t44 t45 t46 t47 i0 i1 i2 i3 i4 i5 i6 i7 σ := by
  rw [← isa_row_decode.j18_eq] at h
  exact seg_snd Pr_mixed (hsel_sound fun x hx => by
    cases hx) h
noncomputable def isa_row_decode.h15 (K : Value → Store → Prop) : Hand := hsel [(18, isa_row_decode.d18 (isa_row_decode.j18 K ))]
theorem isa_row_decode.j15_eq (K : Value → Store → Prop) (w t44 : Int) (t45 : Bool) (t40 t41 t42 t43 t44_1 t45_1 : Int) (t46 t47 : Bool) (i0 i1 i2 i3 i4 i5 : Int) (i6 i7 : Bool) (σ : Store) : (seg Pr isa_row_decode.H F.isa_row_decode isa_row_decode.T (isa_row_decode.h15 K ) K (isa_row_decode.T 15) (Ev.cutE isa_row_decode.H 15 [.v (.int .u32 w), .v (.int .i64 t44), .v (.bool t45)] [[.int .i64 t40, .int .i64 t41, .int .i64 t42, .int .i64 t43, .int .i64 t44_1, .int .u32 t45_1, .bool t46, .bool t47], [.int .i64 i0, .int .i64 i1, .int .i64 i2, .int .i64 i3, .int .i64 i4, .int .u32 i5, .bool i6, .bool i7]]) σ) = isa_row_decode.j15 K w t44 t45 t40 t41 t42 t43 t44_1 t45_1 t46 t47 i0 i1 i2 i3 i4 i5 i6 i7 σ := by kernel_rfl
theorem isa_row_decode.j15_ok (K : Value → Store → Prop) (w t44 : Int) (t45 : Bool) (t40 t41 t42 t43 t44_1 t45_1 : Int) (t46 t47 : Bool) (i0 i1 i2 i3 i4 i5 : Int) (i6 i7 : Bool) (σ : Store) (h : isa_row_decode.j15 K w t44 t45 t40 t41 t42 t43 t44_1 t45_1 t46 t47 i0 i1 i2 i3 i4 i5 i6 i7 σ) : isa_row_decode.S15 K w t44 t45 t40 t41 t42 t43 t44_1 t45_1 t46 t47 i0 i1 i2 i3 i4 i5 i6 i7 σ := by
  rw [← isa_row_decode.j15_eq] at h
  exact seg_snd Pr_mixed (hsel_sound fun x hx => by
    simp only [List.mem_cons, List.not_mem_nil, or_false] at hx
    subst hx
    exact isa_row_decode.d18_ok fun _ _ _ _ _ _ _ _ _ _ _ _ _ _ _ _ _ _ _ h => isa_row_decode.j18_ok K _ _ _ _ _ _ _ _ _ _ _ _ _ _ _ _ _ _ _ h) h
noncomputable def isa_row_decode.h12 (K : Value → Store → Prop) : Hand := hsel [(15, isa_row_decode.d15 (isa_row_decode.j15 K ))]
theorem isa_row_decode.j12_eq (K : Value → Store → Prop) (w r0 : Int) (r1 : ByteArray) (r2 r3 r4 r5 r6 t40 t41 t42 t43 t44 t45 : Int) (t46 t47 : Bool) (i0 i1 i2 i3 i4 i5 : Int) (i6 i7 : Bool) (σ : Store) : (seg Pr isa_row_decode.H F.isa_row_decode isa_row_decode.T (isa_row_decode.h12 K ) K (isa_row_decode.T 12) (Ev.cutE isa_row_decode.H 12 [.v (.int .u32 w)] [[.int .i64 r0, .string r1, .int .i64 r2, .int .u32 r3, .int .u32 r4, .int .u32 r5, .int .i64 r6], [.int .i64 t40, .int .i64 t41, .int .i64 t42, .int .i64 t43, .int .i64 t44, .int .u32 t45, .bool t46, .bool t47], [.int .i64 i0, .int .i64 i1, .int .i64 i2, .int .i64 i3, .int .i64 i4, .int .u32 i5, .bool i6, .bool i7]]) σ) = isa_row_decode.j12 K w r0 r1 r2 r3 r4 r5 r6 t40 t41 t42 t43 t44 t45 t46 t47 i0 i1 i2 i3 i4 i5 i6 i7 σ := by kernel_rfl
theorem isa_row_decode.j12_ok (K : Value → Store → Prop) (w r0 : Int) (r1 : ByteArray) (r2 r3 r4 r5 r6 t40 t41 t42 t43 t44 t45 : Int) (t46 t47 : Bool) (i0 i1 i2 i3 i4 i5 : Int) (i6 i7 : Bool) (σ : Store) (h : isa_row_decode.j12 K w r0 r1 r2 r3 r4 r5 r6 t40 t41 t42 t43 t44 t45 t46 t47 i0 i1 i2 i3 i4 i5 i6 i7 σ) : isa_row_decode.S12 K w r0 r1 r2 r3 r4 r5 r6 t40 t41 t42 t43 t44 t45 t46 t47 i0 i1 i2 i3 i4 i5 i6 i7 σ := by
  rw [← isa_row_decode.j12_eq] at h
  exact seg_snd Pr_mixed (hsel_sound fun x hx => by
    simp only [List.mem_cons, List.not_mem_nil, or_false] at hx
    subst hx
    exact isa_row_decode.d15_ok fun _ _ _ _ _ _ _ _ _ _ _ _ _ _ _ _ _ _ _ _ h => isa_row_decode.j15_ok K _ _ _ _ _ _ _ _ _ _ _ _ _ _ _ _ _ _ _ _ h) h
noncomputable def isa_row_decode.h10 (K : Value → Store → Prop) : Hand := hsel [(12, isa_row_decode.d12 (isa_row_decode.j12 K ))]
theorem isa_row_decode.j10_eq (K : Value → Store → Prop) (w : Int) (imm : Bool) (r0 : Int) (r1 : ByteArray) (r2 r3 r4 r5 r6 t40 t41 t42 t43 t44 t45 : Int) (t46 t47 : Bool) (i0 i1 i2 i3 i4 i5 : Int) (i6 i7 : Bool) (σ : Store) : (seg Pr isa_row_decode.H F.isa_row_decode isa_row_decode.T (isa_row_decode.h10 K ) K (isa_row_decode.T 10) (Ev.cutE isa_row_decode.H 10 [.v (.int .u32 w), .v (.bool imm)] [[.int .i64 r0, .string r1, .int .i64 r2, .int .u32 r3, .int .u32 r4, .int .u32 r5, .int .i64 r6], [.int .i64 t40, .int .i64 t41, .int .i64 t42, .int .i64 t43, .int .i64 t44, .int .u32 t45, .bool t46, .bool t47], [.int .i64 i0, .int .i64 i1, .int .i64 i2, .int .i64 i3, .int .i64 i4, .int .u32 i5, .bool i6, .bool i7]]) σ) = isa_row_decode.j10 K w imm r0 r1 r2 r3 r4 r5 r6 t40 t41 t42 t43 t44 t45 t46 t47 i0 i1 i2 i3 i4 i5 i6 i7 σ := by kernel_rfl
theorem isa_row_decode.j10_ok (K : Value → Store → Prop) (w : Int) (imm : Bool) (r0 : Int) (r1 : ByteArray) (r2 r3 r4 r5 r6 t40 t41 t42 t43 t44 t45 : Int) (t46 t47 : Bool) (i0 i1 i2 i3 i4 i5 : Int) (i6 i7 : Bool) (σ : Store) (h : isa_row_decode.j10 K w imm r0 r1 r2 r3 r4 r5 r6 t40 t41 t42 t43 t44 t45 t46 t47 i0 i1 i2 i3 i4 i5 i6 i7 σ) : isa_row_decode.S10 K w imm r0 r1 r2 r3 r4 r5 r6 t40 t41 t42 t43 t44 t45 t46 t47 i0 i1 i2 i3 i4 i5 i6 i7 σ := by
  rw [← isa_row_decode.j10_eq] at h
  exact seg_snd Pr_mixed (hsel_sound fun x hx => by
    simp only [List.mem_cons, List.not_mem_nil, or_false] at hx
    subst hx
    exact isa_row_decode.d12_ok fun _ _ _ _ _ _ _ _ _ _ _ _ _ _ _ _ _ _ _ _ _ _ _ _ _ h => isa_row_decode.j12_ok K _ _ _ _ _ _ _ _ _ _ _ _ _ _ _ _ _ _ _ _ _ _ _ _ _ h) h
noncomputable def isa_row_decode.h8 (K : Value → Store → Prop) : Hand := hsel [(10, isa_row_decode.d10 (isa_row_decode.j10 K ))]
theorem isa_row_decode.j8_eq (K : Value → Store → Prop) (w : Int) (rs2 imm : Bool) (r0 : Int) (r1 : ByteArray) (r2 r3 r4 r5 r6 t40 t41 t42 t43 t44 t45 : Int) (t46 t47 : Bool) (h0 h1 h2 h3 h4 h5 i0 i1 i2 i3 i4 i5 : Int) (i6 i7 : Bool) (σ : Store) : (seg Pr isa_row_decode.H F.isa_row_decode isa_row_decode.T (isa_row_decode.h8 K ) K (isa_row_decode.T 8) (Ev.cutE isa_row_decode.H 8 [.v (.int .u32 w), .v (.bool rs2), .v (.bool imm)] [[.int .i64 r0, .string r1, .int .i64 r2, .int .u32 r3, .int .u32 r4, .int .u32 r5, .int .i64 r6], [.int .i64 t40, .int .i64 t41, .int .i64 t42, .int .i64 t43, .int .i64 t44, .int .u32 t45, .bool t46, .bool t47], [.int .u32 h0, .int .u32 h1, .int .u32 h2, .int .u32 h3, .int .u32 h4, .int .u32 h5], [.int .i64 i0, .int .i64 i1, .int .i64 i2, .int .i64 i3, .int .i64 i4, .int .u32 i5, .bool i6, .bool i7]]) σ) = isa_row_decode.j8 K w rs2 imm r0 r1 r2 r3 r4 r5 r6 t40 t41 t42 t43 t44 t45 t46 t47 h0 h1 h2 h3 h4 h5 i0 i1 i2 i3 i4 i5 i6 i7 σ := by kernel_rfl
theorem isa_row_decode.j8_ok (K : Value → Store → Prop) (w : Int) (rs2 imm : Bool) (r0 : Int) (r1 : ByteArray) (r2 r3 r4 r5 r6 t40 t41 t42 t43 t44 t45 : Int) (t46 t47 : Bool) (h0 h1 h2 h3 h4 h5 i0 i1 i2 i3 i4 i5 : Int) (i6 i7 : Bool) (σ : Store) (h : isa_row_decode.j8 K w rs2 imm r0 r1 r2 r3 r4 r5 r6 t40 t41 t42 t43 t44 t45 t46 t47 h0 h1 h2 h3 h4 h5 i0 i1 i2 i3 i4 i5 i6 i7 σ) : isa_row_decode.S8 K w rs2 imm r0 r1 r2 r3 r4 r5 r6 t40 t41 t42 t43 t44 t45 t46 t47 h0 h1 h2 h3 h4 h5 i0 i1 i2 i3 i4 i5 i6 i7 σ := by
  rw [← isa_row_decode.j8_eq] at h
  exact seg_snd Pr_mixed (hsel_sound fun x hx => by
    simp only [List.mem_cons, List.not_mem_nil, or_false] at hx
    subst hx
    exact isa_row_decode.d10_ok fun _ _ _ _ _ _ _ _ _ _ _ _ _ _ _ _ _ _ _ _ _ _ _ _ _ _ h => isa_row_decode.j10_ok K _ _ _ _ _ _ _ _ _ _ _ _ _ _ _ _ _ _ _ _ _ _ _ _ _ _ h) h
noncomputable def isa_row_decode.h6 (K : Value → Store → Prop) : Hand := hsel [(8, isa_row_decode.d8 (isa_row_decode.j8 K ))]
theorem isa_row_decode.j6_eq (K : Value → Store → Prop) (w : Int) (rs1 rs2 imm : Bool) (r0 : Int) (r1 : ByteArray) (r2 r3 r4 r5 r6 t40 t41 t42 t43 t44 t45 : Int) (t46 t47 : Bool) (h0 h1 h2 h3 h4 h5 i0 i1 i2 i3 i4 i5 : Int) (i6 i7 : Bool) (σ : Store) : (seg Pr isa_row_decode.H F.isa_row_decode isa_row_decode.T (isa_row_decode.h6 K ) K (isa_row_decode.T 6) (Ev.cutE isa_row_decode.H 6 [.v (.int .u32 w), .v (.bool rs1), .v (.bool rs2), .v (.bool imm)] [[.int .i64 r0, .string r1, .int .i64 r2, .int .u32 r3, .int .u32 r4, .int .u32 r5, .int .i64 r6], [.int .i64 t40, .int .i64 t41, .int .i64 t42, .int .i64 t43, .int .i64 t44, .int .u32 t45, .bool t46, .bool t47], [.int .u32 h0, .int .u32 h1, .int .u32 h2, .int .u32 h3, .int .u32 h4, .int .u32 h5], [.int .i64 i0, .int .i64 i1, .int .i64 i2, .int .i64 i3, .int .i64 i4, .int .u32 i5, .bool i6, .bool i7]]) σ) = isa_row_decode.j6 K w rs1 rs2 imm r0 r1 r2 r3 r4 r5 r6 t40 t41 t42 t43 t44 t45 t46 t47 h0 h1 h2 h3 h4 h5 i0 i1 i2 i3 i4 i5 i6 i7 σ := by kernel_rfl
theorem isa_row_decode.j6_ok (K : Value → Store → Prop) (w : Int) (rs1 rs2 imm : Bool) (r0 : Int) (r1 : ByteArray) (r2 r3 r4 r5 r6 t40 t41 t42 t43 t44 t45 : Int) (t46 t47 : Bool) (h0 h1 h2 h3 h4 h5 i0 i1 i2 i3 i4 i5 : Int) (i6 i7 : Bool) (σ : Store) (h : isa_row_decode.j6 K w rs1 rs2 imm r0 r1 r2 r3 r4 r5 r6 t40 t41 t42 t43 t44 t45 t46 t47 h0 h1 h2 h3 h4 h5 i0 i1 i2 i3 i4 i5 i6 i7 σ) : isa_row_decode.S6 K w rs1 rs2 imm r0 r1 r2 r3 r4 r5 r6 t40 t41 t42 t43 t44 t45 t46 t47 h0 h1 h2 h3 h4 h5 i0 i1 i2 i3 i4 i5 i6 i7 σ := by
  rw [← isa_row_decode.j6_eq] at h
  exact seg_snd Pr_mixed (hsel_sound fun x hx => by
    simp only [List.mem_cons, List.not_mem_nil, or_false] at hx
    subst hx
    exact isa_row_decode.d8_ok fun _ _ _ _ _ _ _ _ _ _ _ _ _ _ _ _ _ _ _ _ _ _ _ _ _ _ _ _ _ _ _ _ _ h => isa_row_decode.j8_ok K _ _ _ _ _ _ _ _ _ _ _ _ _ _ _ _ _ _ _ _ _ _ _ _ _ _ _ _ _ _ _ _ _ h) h
noncomputable def isa_row_decode.h (K : Value → Store → Prop) : Hand := hsel [(6, isa_row_decode.d6 (isa_row_decode.j6 K ))]
theorem isa_row_decode.m_eq (K : Value → Store → Prop) (r0 : Int) (r1 : ByteArray) (r2 r3 r4 r5 r6 w : Int) (σ : Store) : (segF Pr isa_row_decode.H F.isa_row_decode isa_row_decode.T (isa_row_decode.h K) K [.agg #[.int .i64 r0, .string r1, .int .i64 r2, .int .u32 r3, .int .u32 r4, .int .u32 r5, .int .i64 r6], .int .u32 w] σ) = isa_row_decode.m K r0 r1 r2 r3 r4 r5 r6 w σ := by kernel_rfl
theorem isa_row_decode.ok {K : Value → Store → Prop} {r0 : Int} {r1 : ByteArray} {r2 r3 r4 r5 r6 w : Int} {σ : Store} (h : isa_row_decode.m K r0 r1 r2 r3 r4 r5 r6 w σ) : Spec Pr F.isa_row_decode [.agg #[.int .i64 r0, .string r1, .int .i64 r2, .int .u32 r3, .int .u32 r4, .int .u32 r5, .int .i64 r6], .int .u32 w] σ K := by
  rw [← isa_row_decode.m_eq] at h
  exact segF_spec Pr_mixed (hsel_sound fun x hx => by
    simp only [List.mem_cons, List.not_mem_nil, or_false] at hx
    subst hx
    exact isa_row_decode.d6_ok fun _ _ _ _ _ _ _ _ _ _ _ _ _ _ _ _ _ _ _ _ _ _ _ _ _ _ _ _ _ _ _ _ _ _ h => isa_row_decode.j6_ok K _ _ _ _ _ _ _ _ _ _ _ _ _ _ _ _ _ _ _ _ _ _ _ _ _ _ _ _ _ _ _ _ _ _ h) h

/-! ### corral/isa.find -/
def isa_find.H : Hints := { esc := [], cuts := [(3, [0], [(2, 91)])] }
noncomputable def isa_find.T : Nat → List Item := stk Pr F.isa_find [(3, [1, 1])]
abbrev isa_find.R3 : Type := Int → Int → ByteArray → Int → Int → Int → Int → Int → Store → Prop
def isa_find.d3 (g : isa_find.R3) : List AV → List (List Value) → Store → Prop
  | [.v (.int .i64 op)], [[.int .i64 t20, .string t21, .int .i64 t22, .int .u32 t23, .int .u32 t24, .int .u32 t25, .int .i64 t26]], σ => g op t20 t21 t22 t23 t24 t25 t26 σ
  | _, _, _ => False
def isa_find.S3 (K : Value → Store → Prop) (op t20 : Int) (t21 : ByteArray) (t22 t23 t24 t25 t26 : Int) (σ : Store) : Prop := SndF Pr F.isa_find isa_find.H isa_find.T K 3 [.v (.int .i64 op)] [[.int .i64 t20, .string t21, .int .i64 t22, .int .u32 t23, .int .u32 t24, .int .u32 t25, .int .i64 t26]] σ
def isa_find.j3 (K : Value → Store → Prop) (op t20 : Int) (t21 : ByteArray) (t22 t23 t24 t25 t26 : Int) (σ : Store) : Prop :=
  Spec Pr F.isa_rows [] σ fun v σ_ => ∃ t11A : Option Addr, ∃ t11N : Nat, ∃ t11C : Nat, v = .slice t11A t11N t11C ∧
  Req (decide (0 ≤ (IntKind.wrap .i64 (op - 1))) && decide ((IntKind.wrap .i64 (op - 1)) < ((t11N : Nat) : Int))) (
    PtrNN t11A fun t14B t14O =>
    ∃ t150 : Int, ∃ t151 : ByteArray, ∃ t152 : Int, ∃ t153 : Int, ∃ t154 : Int, ∃ t155 : Int, ∃ t156 : Int, cellsAt σ_ t14B (t14O + (IntKind.wrap .i64 (op - 1)).toNat * 7) 7 = some [.int .i64 t150, .string t151, .int .i64 t152, .int .u32 t153, .int .u32 t154, .int .u32 t155, .int .i64 t156] ∧
    K (.tuple #[.agg #[.int .i64 t150, .string t151, .int .i64 t152, .int .u32 t153, .int .u32 t154, .int .u32 t155, .int .i64 t156], .bool true]) σ_)
def isa_find.m (K : Value → Store → Prop) (op : Int) (σ : Store) : Prop :=
  cond (decide (op < 1))
  (K (.tuple #[.agg #[.int .i64 0, .string ByteArray.empty, .int .i64 0, .int .u32 0, .int .u32 0, .int .u32 0, .int .i64 0], .bool false]) σ)
  (cond (decide (op > 69))
    (K (.tuple #[.agg #[.int .i64 0, .string ByteArray.empty, .int .i64 0, .int .u32 0, .int .u32 0, .int .u32 0, .int .i64 0], .bool false]) σ)
    (Hop (isa_find.T 3) (isa_find.T 3) (isa_find.j3 K op 0 ByteArray.empty 0 0 0 0 0 σ)))
theorem isa_find.d3_ok {K : Value → Store → Prop} {g : isa_find.R3} (hg : ∀ op t20 t21 t22 t23 t24 t25 t26 σ, g op t20 t21 t22 t23 t24 t25 t26 σ → isa_find.S3 K op t20 t21 t22 t23 t24 t25 t26 σ) (vs : List AV) (bs : List (List Value)) (σ : Store) (h : isa_find.d3 g vs bs σ) : SndF Pr F.isa_find isa_find.H isa_find.T K 3 vs bs σ := by
  unfold isa_find.d3 at h
  split at h
  · exact hg _ _ _ _ _ _ _ _ _ h
  · exact h.elim
noncomputable def isa_find.h3 (K : Value → Store → Prop) : Hand := hsel []
theorem isa_find.j3_eq (K : Value → Store → Prop) (op t20 : Int) (t21 : ByteArray) (t22 t23 t24 t25 t26 : Int) (σ : Store) : (seg Pr isa_find.H F.isa_find isa_find.T (isa_find.h3 K ) K (isa_find.T 3) (Ev.cutE isa_find.H 3 [.v (.int .i64 op)] [[.int .i64 t20, .string t21, .int .i64 t22, .int .u32 t23, .int .u32 t24, .int .u32 t25, .int .i64 t26]]) σ) = isa_find.j3 K op t20 t21 t22 t23 t24 t25 t26 σ := by kernel_rfl
theorem isa_find.j3_ok (K : Value → Store → Prop) (op t20 : Int) (t21 : ByteArray) (t22 t23 t24 t25 t26 : Int) (σ : Store) (h : isa_find.j3 K op t20 t21 t22 t23 t24 t25 t26 σ) : isa_find.S3 K op t20 t21 t22 t23 t24 t25 t26 σ := by
  rw [← isa_find.j3_eq] at h
  exact seg_snd Pr_mixed (hsel_sound fun x hx => by
    cases hx) h
noncomputable def isa_find.h (K : Value → Store → Prop) : Hand := hsel [(3, isa_find.d3 (isa_find.j3 K ))]
theorem isa_find.m_eq (K : Value → Store → Prop) (op : Int) (σ : Store) : (segF Pr isa_find.H F.isa_find isa_find.T (isa_find.h K) K [.int .i64 op] σ) = isa_find.m K op σ := by kernel_rfl
theorem isa_find.ok {K : Value → Store → Prop} {op : Int} {σ : Store} (h : isa_find.m K op σ) : Spec Pr F.isa_find [.int .i64 op] σ K := by
  rw [← isa_find.m_eq] at h
  exact segF_spec Pr_mixed (hsel_sound fun x hx => by
    simp only [List.mem_cons, List.not_mem_nil, or_false] at hx
    subst hx
    exact isa_find.d3_ok fun _ _ _ _ _ _ _ _ _ h => isa_find.j3_ok K _ _ _ _ _ _ _ _ _ h) h

/-! ### corral/isa.Decode -/
def isa_Decode.H : Hints := { esc := [], cuts := [(2, [0, 6, 7, 8], [(2, 24)]), (7, [], [(2, 24)])] }
noncomputable def isa_Decode.T : Nat → List Item := stk Pr F.isa_Decode [(2, [1, 0, 1, 0, 0]), (7, [1, 1])]
abbrev isa_Decode.R7 : Type := Int → Int → Int → Int → Int → Int → Bool → Bool → Store → Prop
abbrev isa_Decode.R2 : Type := Int → Option Addr → Nat → Nat → Int → Int → Int → Int → Int → Int → Int → Int → Bool → Bool → Store → Prop
def isa_Decode.d7 (g : isa_Decode.R7) : List AV → List (List Value) → Store → Prop
  | [], [[.int .i64 t20, .int .i64 t21, .int .i64 t22, .int .i64 t23, .int .i64 t24, .int .u32 t25, .bool t26, .bool t27]], σ => g t20 t21 t22 t23 t24 t25 t26 t27 σ
  | _, _, _ => False
def isa_Decode.S7 (K : Value → Store → Prop) (t20 t21 t22 t23 t24 t25 : Int) (t26 t27 : Bool) (σ : Store) : Prop := SndF Pr F.isa_Decode isa_Decode.H isa_Decode.T K 7 [] [[.int .i64 t20, .int .i64 t21, .int .i64 t22, .int .i64 t23, .int .i64 t24, .int .u32 t25, .bool t26, .bool t27]] σ
def isa_Decode.j7 (K : Value → Store → Prop) (t20 t21 t22 t23 t24 t25 : Int) (t26 t27 : Bool) (σ : Store) : Prop :=
  K (.tuple #[.agg #[.int .i64 0, .int .i64 0, .int .i64 0, .int .i64 0, .int .i64 0, .int .u32 0, .bool false, .bool false], .bool false]) σ
def isa_Decode.d2 (g : isa_Decode.R2) : List AV → List (List Value) → Store → Prop
  | [.v (.int .u32 w), .v (.slice t6A t6N t6C), .v (.int .i64 t7), .v (.int .i64 t8)], [[.int .i64 t20, .int .i64 t21, .int .i64 t22, .int .i64 t23, .int .i64 t24, .int .u32 t25, .bool t26, .bool t27]], σ => g w t6A t6N t6C t7 t8 t20 t21 t22 t23 t24 t25 t26 t27 σ
  | _, _, _ => False
def isa_Decode.S2 (K : Value → Store → Prop) (w : Int) (t6A : Option Addr) (t6N t6C : Nat) (t7 t8 t20 t21 t22 t23 t24 t25 : Int) (t26 t27 : Bool) (σ : Store) : Prop := SndF Pr F.isa_Decode isa_Decode.H isa_Decode.T K 2 [.v (.int .u32 w), .v (.slice t6A t6N t6C), .v (.int .i64 t7), .v (.int .i64 t8)] [[.int .i64 t20, .int .i64 t21, .int .i64 t22, .int .i64 t23, .int .i64 t24, .int .u32 t25, .bool t26, .bool t27]] σ
def isa_Decode.b2 (K : Value → Store → Prop) (rr2 : isa_Decode.R2) (w : Int) (t6A : Option Addr) (t6N t6C : Nat) (t7 t8 t20 t21 t22 t23 t24 t25 : Int) (t26 t27 : Bool) (σ : Store) : Prop :=
  cond (decide (t8 < t7))
  (Req (decide (0 ≤ t8) && decide (t8 < ((t6N : Nat) : Int))) (
      PtrNN t6A fun t10B t10O =>
      ∃ t110 : Int, ∃ t111 : ByteArray, ∃ t112 : Int, ∃ t113 : Int, ∃ t114 : Int, ∃ t115 : Int, ∃ t116 : Int, cellsAt σ t10B (t10O + t8.toNat * 7) 7 = some [.int .i64 t110, .string t111, .int .i64 t112, .int .u32 t113, .int .u32 t114, .int .u32 t115, .int .i64 t116] ∧
      Spec Pr F.isa_row_fits [.agg #[.int .i64 t110, .string t111, .int .i64 t112, .int .u32 t113, .int .u32 t114, .int .u32 t115, .int .i64 t116], .int .u32 w] σ fun v σ_ => ∃ t14 : Bool, v = .bool t14 ∧
      cond t14
      (Spec Pr F.isa_row_decode [.agg #[.int .i64 t110, .string t111, .int .i64 t112, .int .u32 t113, .int .u32 t114, .int .u32 t115, .int .i64 t116], .int .u32 w] σ_ fun v1 σ_1 => ∃ t170 : Int, ∃ t171 : Int, ∃ t172 : Int, ∃ t173 : Int, ∃ t174 : Int, ∃ t175 : Int, ∃ t176 : Bool, ∃ t177 : Bool, v1 = .agg #[.int .i64 t170, .int .i64 t171, .int .i64 t172, .int .i64 t173, .int .i64 t174, .int .u32 t175, .bool t176, .bool t177] ∧
        K (.tuple #[.agg #[.int .i64 t170, .int .i64 t171, .int .i64 t172, .int .i64 t173, .int .i64 t174, .int .u32 t175, .bool t176, .bool t177], .bool true]) σ_1)
      (Hop (isa_Decode.T 2) (isa_Decode.T 2) (rr2 w t6A t6N t6C t7 (IntKind.wrap .i64 (t8 + 1)) t20 t21 t22 t23 t24 t25 t26 t27 σ_))))
  (Hop (isa_Decode.T 7) (isa_Decode.T 7) (isa_Decode.j7 K t20 t21 t22 t23 t24 t25 t26 t27 σ))
def isa_Decode.l2 (K : Value → Store → Prop) : Nat → isa_Decode.R2
  | 0, _, _, _, _, _, _, _, _, _, _, _, _, _, _, _ => False
  | n + 1, w, t6A, t6N, t6C, t7, t8, t20, t21, t22, t23, t24, t25, t26, t27, σ => isa_Decode.b2 K (isa_Decode.l2 K n) w t6A t6N t6C t7 t8 t20 t21 t22 t23 t24 t25 t26 t27 σ
def isa_Decode.m (K : Value → Store → Prop) (w : Int) (σ : Store) : Prop :=
  Spec Pr F.isa_rows [] σ fun v σ_ => ∃ t6A : Option Addr, ∃ t6N : Nat, ∃ t6C : Nat, v = .slice t6A t6N t6C ∧
  Hop (isa_Decode.T 2) (isa_Decode.T 2) (∃ n : Nat, isa_Decode.l2 K n w t6A t6N t6C ((t6N : Nat) : Int) 0 0 0 0 0 0 0 false false σ_)
theorem isa_Decode.d7_ok {K : Value → Store → Prop} {g : isa_Decode.R7} (hg : ∀ t20 t21 t22 t23 t24 t25 t26 t27 σ, g t20 t21 t22 t23 t24 t25 t26 t27 σ → isa_Decode.S7 K t20 t21 t22 t23 t24 t25 t26 t27 σ) (vs : List AV) (bs : List (List Value)) (σ : Store) (h : isa_Decode.d7 g vs bs σ) : SndF Pr F.isa_Decode isa_Decode.H isa_Decode.T K 7 vs bs σ := by
  unfold isa_Decode.d7 at h
  split at h
  · exact hg _ _ _ _ _ _ _ _ _ h
  · exact h.elim
theorem isa_Decode.d2_ok {K : Value → Store → Prop} {g : isa_Decode.R2} (hg : ∀ w t6A t6N t6C t7 t8 t20 t21 t22 t23 t24 t25 t26 t27 σ, g w t6A t6N t6C t7 t8 t20 t21 t22 t23 t24 t25 t26 t27 σ → isa_Decode.S2 K w t6A t6N t6C t7 t8 t20 t21 t22 t23 t24 t25 t26 t27 σ) (vs : List AV) (bs : List (List Value)) (σ : Store) (h : isa_Decode.d2 g vs bs σ) : SndF Pr F.isa_Decode isa_Decode.H isa_Decode.T K 2 vs bs σ := by
  unfold isa_Decode.d2 at h
  split at h
  · exact hg _ _ _ _ _ _ _ _ _ _ _ _ _ _ _ h
  · exact h.elim
noncomputable def isa_Decode.h7 (K : Value → Store → Prop) : Hand := hsel []
theorem isa_Decode.j7_eq (K : Value → Store → Prop) (t20 t21 t22 t23 t24 t25 : Int) (t26 t27 : Bool) (σ : Store) : (seg Pr isa_Decode.H F.isa_Decode isa_Decode.T (isa_Decode.h7 K ) K (isa_Decode.T 7) (Ev.cutE isa_Decode.H 7 [] [[.int .i64 t20, .int .i64 t21, .int .i64 t22, .int .i64 t23, .int .i64 t24, .int .u32 t25, .bool t26, .bool t27]]) σ) = isa_Decode.j7 K t20 t21 t22 t23 t24 t25 t26 t27 σ := by kernel_rfl
theorem isa_Decode.j7_ok (K : Value → Store → Prop) (t20 t21 t22 t23 t24 t25 : Int) (t26 t27 : Bool) (σ : Store) (h : isa_Decode.j7 K t20 t21 t22 t23 t24 t25 t26 t27 σ) : isa_Decode.S7 K t20 t21 t22 t23 t24 t25 t26 t27 σ := by
  rw [← isa_Decode.j7_eq] at h
  exact seg_snd Pr_mixed (hsel_sound fun x hx => by
    cases hx) h
noncomputable def isa_Decode.h2 (K : Value → Store → Prop) (rr2 : isa_Decode.R2) : Hand := hsel [(7, isa_Decode.d7 (isa_Decode.j7 K )), (2, isa_Decode.d2 rr2)]
theorem isa_Decode.b2_eq (K : Value → Store → Prop) (rr2 : isa_Decode.R2) (w : Int) (t6A : Option Addr) (t6N t6C : Nat) (t7 t8 t20 t21 t22 t23 t24 t25 : Int) (t26 t27 : Bool) (σ : Store) : (seg Pr isa_Decode.H F.isa_Decode isa_Decode.T (isa_Decode.h2 K rr2) K (isa_Decode.T 2) (Ev.cutE isa_Decode.H 2 [.v (.int .u32 w), .v (.slice t6A t6N t6C), .v (.int .i64 t7), .v (.int .i64 t8)] [[.int .i64 t20, .int .i64 t21, .int .i64 t22, .int .i64 t23, .int .i64 t24, .int .u32 t25, .bool t26, .bool t27]]) σ) = isa_Decode.b2 K rr2 w t6A t6N t6C t7 t8 t20 t21 t22 t23 t24 t25 t26 t27 σ := by kernel_rfl
theorem isa_Decode.b2_ok (K : Value → Store → Prop) (rr2 : isa_Decode.R2) (hh2 : ∀ w t6A t6N t6C t7 t8 t20 t21 t22 t23 t24 t25 t26 t27 σ, rr2 w t6A t6N t6C t7 t8 t20 t21 t22 t23 t24 t25 t26 t27 σ → isa_Decode.S2 K w t6A t6N t6C t7 t8 t20 t21 t22 t23 t24 t25 t26 t27 σ) (w : Int) (t6A : Option Addr) (t6N t6C : Nat) (t7 t8 t20 t21 t22 t23 t24 t25 : Int) (t26 t27 : Bool) (σ : Store) (h : isa_Decode.b2 K rr2 w t6A t6N t6C t7 t8 t20 t21 t22 t23 t24 t25 t26 t27 σ) : isa_Decode.S2 K w t6A t6N t6C t7 t8 t20 t21 t22 t23 t24 t25 t26 t27 σ := by
  rw [← isa_Decode.b2_eq] at h
  exact seg_snd Pr_mixed (hsel_sound fun x hx => by
    simp only [List.mem_cons, List.not_mem_nil, or_false] at hx
    rcases hx with rfl | rfl
    · exact isa_Decode.d7_ok fun _ _ _ _ _ _ _ _ _ h => isa_Decode.j7_ok K _ _ _ _ _ _ _ _ _ h
    · exact isa_Decode.d2_ok hh2) h
theorem isa_Decode.l2_ok (K : Value → Store → Prop) : ∀ (n : Nat) (w : Int) (t6A : Option Addr) (t6N t6C : Nat) (t7 t8 t20 t21 t22 t23 t24 t25 : Int) (t26 t27 : Bool) (σ : Store), isa_Decode.l2 K n w t6A t6N t6C t7 t8 t20 t21 t22 t23 t24 t25 t26 t27 σ → isa_Decode.S2 K w t6A t6N t6C t7 t8 t20 t21 t22 t23 t24 t25 t26 t27 σ
  | 0, _, _, _, _, _, _, _, _, _, _, _, _, _, _, _, h => h.elim
  | n + 1, _, _, _, _, _, _, _, _, _, _, _, _, _, _, _, h => isa_Decode.b2_ok K (isa_Decode.l2 K n) (isa_Decode.l2_ok K n) _ _ _ _ _ _ _ _ _ _ _ _ _ _ _ h
noncomputable def isa_Decode.h (K : Value → Store → Prop) : Hand := hsel [(2, isa_Decode.d2 fun w t6A t6N t6C t7 t8 t20 t21 t22 t23 t24 t25 t26 t27 σ => ∃ n : Nat, isa_Decode.l2 K n w t6A t6N t6C t7 t8 t20 t21 t22 t23 t24 t25 t26 t27 σ)]
theorem isa_Decode.m_eq (K : Value → Store → Prop) (w : Int) (σ : Store) : (segF Pr isa_Decode.H F.isa_Decode isa_Decode.T (isa_Decode.h K) K [.int .u32 w] σ) = isa_Decode.m K w σ := by kernel_rfl
theorem isa_Decode.ok {K : Value → Store → Prop} {w : Int} {σ : Store} (h : isa_Decode.m K w σ) : Spec Pr F.isa_Decode [.int .u32 w] σ K := by
  rw [← isa_Decode.m_eq] at h
  exact segF_spec Pr_mixed (hsel_sound fun x hx => by
    simp only [List.mem_cons, List.not_mem_nil, or_false] at hx
    subst hx
    exact isa_Decode.d2_ok fun _ _ _ _ _ _ _ _ _ _ _ _ _ _ _ ⟨n, h⟩ => isa_Decode.l2_ok K n _ _ _ _ _ _ _ _ _ _ _ _ _ _ _ h) h

/-! ### corral/isa.Encode -/
def isa_Encode.H : Hints := { esc := [31], cuts := [(5, [31, 32, 33], [(1, 24), (4, 91)]), (8, [31, 32, 33, 42], [(1, 24), (4, 91)]), (9, [31, 32, 33], [(1, 24), (4, 91)]), (10, [], [(1, 24), (4, 91)]), (11, [52], [(1, 24), (4, 91)]), (12, [], [(1, 24), (4, 91)]), (18, [8, 9, 10, 11, 12], [(1, 24), (4, 91)]), (19, [8, 9, 10, 11, 12, 13], [(1, 24), (4, 91)]), (20, [8, 9, 10, 11, 12, 13, 14], [(1, 24), (4, 91)]), (21, [12, 14, 142], [(1, 24), (4, 91)]), (22, [12, 14], [(1, 24), (4, 91)]), (29, [12, 15], [(1, 24), (4, 91)]), (31, [12, 15], [(1, 24), (4, 91)])] }
noncomputable def isa_Encode.T : Nat → List Item := stk Pr F.isa_Encode [(5, [1, 1, 1, 0, 1, 0, 0]), (8, [1, 1, 1, 0, 1, 0, 0, 1, 1, 0, 0, 1, 1]), (9, [1, 1, 1, 0, 1, 0, 0, 1, 1, 1]), (10, [1, 1, 1, 1]), (11, [1, 1, 1, 1, 0, 1]), (12, [1, 1, 1, 1, 1]), (18, [1, 1, 1, 1, 1, 1, 1, 1]), (19, [1, 1, 1, 1, 1, 1, 1, 1, 1]), (20, [1, 1, 1, 1, 1, 1, 1, 1, 1, 1]), (21, [1, 1, 1, 1, 1, 1, 1, 1, 1, 1, 0, 1]), (22, [1, 1, 1, 1, 1, 1, 1, 1, 1, 1, 1]), (29, [1, 1, 1, 1, 1, 1, 1, 1, 1, 1, 1, 1, 1, 0, 1, 0, 1, 1]), (31, [1, 1, 1, 1, 1, 1, 1, 1, 1, 1, 1, 1, 1, 1])]
abbrev isa_Encode.R9 : Type := Option Addr → Nat → Nat → Int → Int → Int → Int → Int → Int → Int → Int → Bool → Bool → Int → ByteArray → Int → Int → Int → Int → Int → Store → Prop
abbrev isa_Encode.R8 : Type := Option Addr → Nat → Nat → Int → Int → Bool → Int → Int → Int → Int → Int → Int → Bool → Bool → Int → ByteArray → Int → Int → Int → Int → Int → Store → Prop
abbrev isa_Encode.R31 : Type := Int → Int → Int → Int → Int → Int → Int → Int → Bool → Bool → Int → ByteArray → Int → Int → Int → Int → Int → Store → Prop
abbrev isa_Encode.R29 : Type := Int → Int → Int → Int → Int → Int → Int → Int → Bool → Bool → Int → ByteArray → Int → Int → Int → Int → Int → Store → Prop
abbrev isa_Encode.R22 : Type := Int → Bool → Int → Int → Int → Int → Int → Int → Bool → Bool → Int → ByteArray → Int → Int → Int → Int → Int → Store → Prop
abbrev isa_Encode.R21 : Type := Int → Bool → Bool → Int → Int → Int → Int → Int → Int → Bool → Bool → Int → ByteArray → Int → Int → Int → Int → Int → Store → Prop
abbrev isa_Encode.R20 : Type := Bool → Bool → Bool → Bool → Int → Bool → Bool → Int → Int → Int → Int → Int → Int → Bool → Bool → Int → ByteArray → Int → Int → Int → Int → Int → Store → Prop
abbrev isa_Encode.R19 : Type := Bool → Bool → Bool → Bool → Int → Bool → Int → Int → Int → Int → Int → Int → Bool → Bool → Int → ByteArray → Int → Int → Int → Int → Int → Store → Prop
abbrev isa_Encode.R18 : Type := Bool → Bool → Bool → Bool → Int → Int → Int → Int → Int → Int → Int → Bool → Bool → Int → ByteArray → Int → Int → Int → Int → Int → Store → Prop
abbrev isa_Encode.R12 : Type := Int → Int → Int → Int → Int → Int → Bool → Bool → Int → ByteArray → Int → Int → Int → Int → Int → Store → Prop
abbrev isa_Encode.R11 : Type := Bool → Int → Int → Int → Int → Int → Int → Bool → Bool → Int → ByteArray → Int → Int → Int → Int → Int → Store → Prop
abbrev isa_Encode.R10 : Type := Int → Int → Int → Int → Int → Int → Bool → Bool → Int → ByteArray → Int → Int → Int → Int → Int → Store → Prop
abbrev isa_Encode.R5 : Type := Option Addr → Nat → Nat → Int → Int → Int → Int → Int → Int → Int → Int → Bool → Bool → Int → ByteArray → Int → Int → Int → Int → Int → Store → Prop
def isa_Encode.d9 (g : isa_Encode.R9) : List AV → List (List Value) → Store → Prop
  | [.v (.slice t31A t31N t31C), .v (.int .i64 t32), .v (.int .i64 t33)], [[.int .i64 i0, .int .i64 i1, .int .i64 i2, .int .i64 i3, .int .i64 i4, .int .u32 i5, .bool i6, .bool i7], [.int .i64 r0, .string r1, .int .i64 r2, .int .u32 r3, .int .u32 r4, .int .u32 r5, .int .i64 r6]], σ => g t31A t31N t31C t32 t33 i0 i1 i2 i3 i4 i5 i6 i7 r0 r1 r2 r3 r4 r5 r6 σ
  | _, _, _ => False
def isa_Encode.S9 (K : Value → Store → Prop) (t31A : Option Addr) (t31N t31C : Nat) (t32 t33 i0 i1 i2 i3 i4 i5 : Int) (i6 i7 : Bool) (r0 : Int) (r1 : ByteArray) (r2 r3 r4 r5 r6 : Int) (σ : Store) : Prop := SndF Pr F.isa_Encode isa_Encode.H isa_Encode.T K 9 [.v (.slice t31A t31N t31C), .v (.int .i64 t32), .v (.int .i64 t33)] [[.int .i64 i0, .int .i64 i1, .int .i64 i2, .int .i64 i3, .int .i64 i4, .int .u32 i5, .bool i6, .bool i7], [.int .i64 r0, .string r1, .int .i64 r2, .int .u32 r3, .int .u32 r4, .int .u32 r5, .int .i64 r6]] σ
def isa_Encode.j9 (K : Value → Store → Prop) (rr5 : isa_Encode.R5) (t31A : Option Addr) (t31N t31C : Nat) (t32 t33 i0 i1 i2 i3 i4 i5 : Int) (i6 i7 : Bool) (r0 : Int) (r1 : ByteArray) (r2 r3 r4 r5 r6 : Int) (σ : Store) : Prop :=
  Hop (isa_Encode.T 5) (isa_Encode.T 5) (rr5 t31A t31N t31C t32 (IntKind.wrap .i64 (t33 + 1)) i0 i1 i2 i3 i4 i5 i6 i7 r0 r1 r2 r3 r4 r5 r6 σ)
def isa_Encode.d8 (g : isa_Encode.R8) : List AV → List (List Value) → Store → Prop
  | [.v (.slice t31A t31N t31C), .v (.int .i64 t32), .v (.int .i64 t33), .v (.bool t42)], [[.int .i64 i0, .int .i64 i1, .int .i64 i2, .int .i64 i3, .int .i64 i4, .int .u32 i5, .bool i6, .bool i7], [.int .i64 r0, .string r1, .int .i64 r2, .int .u32 r3, .int .u32 r4, .int .u32 r5, .int .i64 r6]], σ => g t31A t31N t31C t32 t33 t42 i0 i1 i2 i3 i4 i5 i6 i7 r0 r1 r2 r3 r4 r5 r6 σ
  | _, _, _ => False
def isa_Encode.S8 (K : Value → Store → Prop) (t31A : Option Addr) (t31N t31C : Nat) (t32 t33 : Int) (t42 : Bool) (i0 i1 i2 i3 i4 i5 : Int) (i6 i7 : Bool) (r0 : Int) (r1 : ByteArray) (r2 r3 r4 r5 r6 : Int) (σ : Store) : Prop := SndF Pr F.isa_Encode isa_Encode.H isa_Encode.T K 8 [.v (.slice t31A t31N t31C), .v (.int .i64 t32), .v (.int .i64 t33), .v (.bool t42)] [[.int .i64 i0, .int .i64 i1, .int .i64 i2, .int .i64 i3, .int .i64 i4, .int .u32 i5, .bool i6, .bool i7], [.int .i64 r0, .string r1, .int .i64 r2, .int .u32 r3, .int .u32 r4, .int .u32 r5, .int .i64 r6]] σ
def isa_Encode.j8 (K : Value → Store → Prop) (rr5 : isa_Encode.R5) (t31A : Option Addr) (t31N t31C : Nat) (t32 t33 : Int) (t42 : Bool) (i0 i1 i2 i3 i4 i5 : Int) (i6 i7 : Bool) (r0 : Int) (r1 : ByteArray) (r2 r3 r4 r5 r6 : Int) (σ : Store) : Prop :=
  cond t42
  (∃ t43 : Value, cellAt σ 1 0 = some (t43) ∧
    K (.tuple #[.int .u32 0, t43]) σ)
  (Hop (isa_Encode.T 9) (isa_Encode.T 9) (isa_Encode.j9 K rr5 t31A t31N t31C t32 t33 i0 i1 i2 i3 i4 i5 i6 i7 r0 r1 r2 r3 r4 r5 r6 σ))
def isa_Encode.d31 (g : isa_Encode.R31) : List AV → List (List Value) → Store → Prop
  | [.v (.int .u32 w), .v (.int .u32 f7)], [[.int .i64 i0, .int .i64 i1, .int .i64 i2, .int .i64 i3, .int .i64 i4, .int .u32 i5, .bool i6, .bool i7], [.int .i64 r0, .string r1, .int .i64 r2, .int .u32 r3, .int .u32 r4, .int .u32 r5, .int .i64 r6]], σ => g w f7 i0 i1 i2 i3 i4 i5 i6 i7 r0 r1 r2 r3 r4 r5 r6 σ
  | _, _, _ => False
def isa_Encode.S31 (K : Value → Store → Prop) (w f7 i0 i1 i2 i3 i4 i5 : Int) (i6 i7 : Bool) (r0 : Int) (r1 : ByteArray) (r2 r3 r4 r5 r6 : Int) (σ : Store) : Prop := SndF Pr F.isa_Encode isa_Encode.H isa_Encode.T K 31 [.v (.int .u32 w), .v (.int .u32 f7)] [[.int .i64 i0, .int .i64 i1, .int .i64 i2, .int .i64 i3, .int .i64 i4, .int .u32 i5, .bool i6, .bool i7], [.int .i64 r0, .string r1, .int .i64 r2, .int .u32 r3, .int .u32 r4, .int .u32 r5, .int .i64 r6]] σ
def isa_Encode.j31 (K : Value → Store → Prop) (w f7 i0 i1 i2 i3 i4 i5 : Int) (i6 i7 : Bool) (r0 : Int) (r1 : ByteArray) (r2 r3 r4 r5 r6 : Int) (σ : Store) : Prop :=
  Spec Pr F.enc_Join [.agg #[.int .u32 r3, .int .u32 (IntKind.wrap .u32 i1), .int .u32 r4, .int .u32 (IntKind.wrap .u32 i2), .int .u32 (IntKind.wrap .u32 i3), .int .u32 f7]] σ fun v σ_ => ∃ t183 : Int, v = .int .u32 t183 ∧
  K (.tuple #[.int .u32 (orI .u32 (orI .u32 w (shlI .u32 (IntKind.wrap .u32 i4) 20)) t183), .nilIface]) σ_
def isa_Encode.d29 (g : isa_Encode.R29) : List AV → List (List Value) → Store → Prop
  | [.v (.int .u32 w), .v (.int .u32 f7)], [[.int .i64 i0, .int .i64 i1, .int .i64 i2, .int .i64 i3, .int .i64 i4, .int .u32 i5, .bool i6, .bool i7], [.int .i64 r0, .string r1, .int .i64 r2, .int .u32 r3, .int .u32 r4, .int .u32 r5, .int .i64 r6]], σ => g w f7 i0 i1 i2 i3 i4 i5 i6 i7 r0 r1 r2 r3 r4 r5 r6 σ
  | _, _, _ => False
def isa_Encode.S29 (K : Value → Store → Prop) (w f7 i0 i1 i2 i3 i4 i5 : Int) (i6 i7 : Bool) (r0 : Int) (r1 : ByteArray) (r2 r3 r4 r5 r6 : Int) (σ : Store) : Prop := SndF Pr F.isa_Encode isa_Encode.H isa_Encode.T K 29 [.v (.int .u32 w), .v (.int .u32 f7)] [[.int .i64 i0, .int .i64 i1, .int .i64 i2, .int .i64 i3, .int .i64 i4, .int .u32 i5, .bool i6, .bool i7], [.int .i64 r0, .string r1, .int .i64 r2, .int .u32 r3, .int .u32 r4, .int .u32 r5, .int .i64 r6]] σ
def isa_Encode.j29 (K : Value → Store → Prop) (w f7 i0 i1 i2 i3 i4 i5 : Int) (i6 i7 : Bool) (r0 : Int) (r1 : ByteArray) (r2 r3 r4 r5 r6 : Int) (σ : Store) : Prop :=
  cond i7
  (Hop (isa_Encode.T 31) (isa_Encode.T 31) (isa_Encode.j31 K w (orI .u32 f7 1) i0 i1 i2 i3 i4 i5 i6 i7 r0 r1 r2 r3 r4 r5 r6 σ))
  (Hop (isa_Encode.T 31) (isa_Encode.T 31) (isa_Encode.j31 K w f7 i0 i1 i2 i3 i4 i5 i6 i7 r0 r1 r2 r3 r4 r5 r6 σ))
def isa_Encode.d22 (g : isa_Encode.R22) : List AV → List (List Value) → Store → Prop
  | [.v (.int .u32 w), .v (.bool a)], [[.int .i64 i0, .int .i64 i1, .int .i64 i2, .int .i64 i3, .int .i64 i4, .int .u32 i5, .bool i6, .bool i7], [.int .i64 r0, .string r1, .int .i64 r2, .int .u32 r3, .int .u32 r4, .int .u32 r5, .int .i64 r6]], σ => g w a i0 i1 i2 i3 i4 i5 i6 i7 r0 r1 r2 r3 r4 r5 r6 σ
  | _, _, _ => False
def isa_Encode.S22 (K : Value → Store → Prop) (w : Int) (a : Bool) (i0 i1 i2 i3 i4 i5 : Int) (i6 i7 : Bool) (r0 : Int) (r1 : ByteArray) (r2 r3 r4 r5 r6 : Int) (σ : Store) : Prop := SndF Pr F.isa_Encode isa_Encode.H isa_Encode.T K 22 [.v (.int .u32 w), .v (.bool a)] [[.int .i64 i0, .int .i64 i1, .int .i64 i2, .int .i64 i3, .int .i64 i4, .int .u32 i5, .bool i6, .bool i7], [.int .i64 r0, .string r1, .int .i64 r2, .int .u32 r3, .int .u32 r4, .int .u32 r5, .int .i64 r6]] σ
def isa_Encode.j22 (K : Value → Store → Prop) (w : Int) (a : Bool) (i0 i1 i2 i3 i4 i5 : Int) (i6 i7 : Bool) (r0 : Int) (r1 : ByteArray) (r2 r3 r4 r5 r6 : Int) (σ : Store) : Prop :=
  cond (r2 == 8)
  (K (.tuple #[.int .u32 r3, .nilIface]) σ)
  (cond a
    (cond i6
      (Hop (isa_Encode.T 29) (isa_Encode.T 29) (isa_Encode.j29 K w (orI .u32 (shlI .u32 r5 2) 2) i0 i1 i2 i3 i4 i5 i6 i7 r0 r1 r2 r3 r4 r5 r6 σ))
      (Hop (isa_Encode.T 29) (isa_Encode.T 29) (isa_Encode.j29 K w (shlI .u32 r5 2) i0 i1 i2 i3 i4 i5 i6 i7 r0 r1 r2 r3 r4 r5 r6 σ)))
    (Hop (isa_Encode.T 31) (isa_Encode.T 31) (isa_Encode.j31 K w r5 i0 i1 i2 i3 i4 i5 i6 i7 r0 r1 r2 r3 r4 r5 r6 σ)))
def isa_Encode.d21 (g : isa_Encode.R21) : List AV → List (List Value) → Store → Prop
  | [.v (.int .u32 w), .v (.bool a), .v (.bool t142)], [[.int .i64 i0, .int .i64 i1, .int .i64 i2, .int .i64 i3, .int .i64 i4, .int .u32 i5, .bool i6, .bool i7], [.int .i64 r0, .string r1, .int .i64 r2, .int .u32 r3, .int .u32 r4, .int .u32 r5, .int .i64 r6]], σ => g w a t142 i0 i1 i2 i3 i4 i5 i6 i7 r0 r1 r2 r3 r4 r5 r6 σ
  | _, _, _ => False
def isa_Encode.S21 (K : Value → Store → Prop) (w : Int) (a t142 : Bool) (i0 i1 i2 i3 i4 i5 : Int) (i6 i7 : Bool) (r0 : Int) (r1 : ByteArray) (r2 r3 r4 r5 r6 : Int) (σ : Store) : Prop := SndF Pr F.isa_Encode isa_Encode.H isa_Encode.T K 21 [.v (.int .u32 w), .v (.bool a), .v (.bool t142)] [[.int .i64 i0, .int .i64 i1, .int .i64 i2, .int .i64 i3, .int .i64 i4, .int .u32 i5, .bool i6, .bool i7], [.int .i64 r0, .string r1, .int .i64 r2, .int .u32 r3, .int .u32 r4, .int .u32 r5, .int .i64 r6]] σ
def isa_Encode.j21 (K : Value → Store → Prop) (w : Int) (a t142 : Bool) (i0 i1 i2 i3 i4 i5 : Int) (i6 i7 : Bool) (r0 : Int) (r1 : ByteArray) (r2 r3 r4 r5 r6 : Int) (σ : Store) : Prop :=
  cond t142
  (∃ t143 : Value, cellAt σ 2 0 = some (t143) ∧
    K (.tuple #[.int .u32 0, t143]) σ)
  (Hop (isa_Encode.T 22) (isa_Encode.T 22) (isa_Encode.j22 K w a i0 i1 i2 i3 i4 i5 i6 i7 r0 r1 r2 r3 r4 r5 r6 σ))
def isa_Encode.d20 (g : isa_Encode.R20) : List AV → List (List Value) → Store → Prop
  | [.v (.bool rd), .v (.bool rs1), .v (.bool rs2), .v (.bool imm), .v (.int .u32 w), .v (.bool c), .v (.bool a)], [[.int .i64 i0, .int .i64 i1, .int .i64 i2, .int .i64 i3, .int .i64 i4, .int .u32 i5, .bool i6, .bool i7], [.int .i64 r0, .string r1, .int .i64 r2, .int .u32 r3, .int .u32 r4, .int .u32 r5, .int .i64 r6]], σ => g rd rs1 rs2 imm w c a i0 i1 i2 i3 i4 i5 i6 i7 r0 r1 r2 r3 r4 r5 r6 σ
  | _, _, _ => False
def isa_Encode.S20 (K : Value → Store → Prop) (rd rs1 rs2 imm : Bool) (w : Int) (c a : Bool) (i0 i1 i2 i3 i4 i5 : Int) (i6 i7 : Bool) (r0 : Int) (r1 : ByteArray) (r2 r3 r4 r5 r6 : Int) (σ : Store) : Prop := SndF Pr F.isa_Encode isa_Encode.H isa_Encode.T K 20 [.v (.bool rd), .v (.bool rs1), .v (.bool rs2), .v (.bool imm), .v (.int .u32 w), .v (.bool c), .v (.bool a)] [[.int .i64 i0, .int .i64 i1, .int .i64 i2, .int .i64 i3, .int .i64 i4, .int .u32 i5, .bool i6, .bool i7], [.int .i64 r0, .string r1, .int .i64 r2, .int .u32 r3, .int .u32 r4, .int .u32 r5, .int .i64 r6]] σ
def isa_Encode.j20 (K : Value → Store → Prop) (rd rs1 rs2 imm : Bool) (w : Int) (c a : Bool) (i0 i1 i2 i3 i4 i5 : Int) (i6 i7 : Bool) (r0 : Int) (r1 : ByteArray) (r2 r3 r4 r5 r6 : Int) (σ : Store) : Prop :=
  cond (!rd)
  (cond (i1 != 0)
    (Hop (isa_Encode.T 21) (isa_Encode.T 21) (isa_Encode.j21 K w a true i0 i1 i2 i3 i4 i5 i6 i7 r0 r1 r2 r3 r4 r5 r6 σ))
    (cond (!rs1)
      (cond (i2 != 0)
        (Hop (isa_Encode.T 21) (isa_Encode.T 21) (isa_Encode.j21 K w a true i0 i1 i2 i3 i4 i5 i6 i7 r0 r1 r2 r3 r4 r5 r6 σ))
        (cond (!rs2)
          (cond (i3 != 0)
            (Hop (isa_Encode.T 21) (isa_Encode.T 21) (isa_Encode.j21 K w a true i0 i1 i2 i3 i4 i5 i6 i7 r0 r1 r2 r3 r4 r5 r6 σ))
            (cond (!imm)
              (cond (i5 != 0)
                (Hop (isa_Encode.T 21) (isa_Encode.T 21) (isa_Encode.j21 K w a true i0 i1 i2 i3 i4 i5 i6 i7 r0 r1 r2 r3 r4 r5 r6 σ))
                (cond (!c)
                  (cond (i4 != 0)
                    (Hop (isa_Encode.T 21) (isa_Encode.T 21) (isa_Encode.j21 K w a true i0 i1 i2 i3 i4 i5 i6 i7 r0 r1 r2 r3 r4 r5 r6 σ))
                    (cond (!a)
                      (cond i6
                        (Hop (isa_Encode.T 21) (isa_Encode.T 21) (isa_Encode.j21 K w a true i0 i1 i2 i3 i4 i5 i6 i7 r0 r1 r2 r3 r4 r5 r6 σ))
                        (Hop (isa_Encode.T 21) (isa_Encode.T 21) (isa_Encode.j21 K w a i7 i0 i1 i2 i3 i4 i5 i6 i7 r0 r1 r2 r3 r4 r5 r6 σ)))
                      (Hop (isa_Encode.T 21) (isa_Encode.T 21) (isa_Encode.j21 K w a false i0 i1 i2 i3 i4 i5 i6 i7 r0 r1 r2 r3 r4 r5 r6 σ))))
                  (cond (!a)
                    (cond i6
                      (Hop (isa_Encode.T 21) (isa_Encode.T 21) (isa_Encode.j21 K w a true i0 i1 i2 i3 i4 i5 i6 i7 r0 r1 r2 r3 r4 r5 r6 σ))
                      (Hop (isa_Encode.T 21) (isa_Encode.T 21) (isa_Encode.j21 K w a i7 i0 i1 i2 i3 i4 i5 i6 i7 r0 r1 r2 r3 r4 r5 r6 σ)))
                    (Hop (isa_Encode.T 21) (isa_Encode.T 21) (isa_Encode.j21 K w a false i0 i1 i2 i3 i4 i5 i6 i7 r0 r1 r2 r3 r4 r5 r6 σ)))))
              (cond (!c)
                (cond (i4 != 0)
                  (Hop (isa_Encode.T 21) (isa_Encode.T 21) (isa_Encode.j21 K w a true i0 i1 i2 i3 i4 i5 i6 i7 r0 r1 r2 r3 r4 r5 r6 σ))
                  (cond (!a)
                    (cond i6
                      (Hop (isa_Encode.T 21) (isa_Encode.T 21) (isa_Encode.j21 K w a true i0 i1 i2 i3 i4 i5 i6 i7 r0 r1 r2 r3 r4 r5 r6 σ))
                      (Hop (isa_Encode.T 21) (isa_Encode.T 21) (isa_Encode.j21 K w a i7 i0 i1 i2 i3 i4 i5 i6 i7 r0 r1 r2 r3 r4 r5 r6 σ)))
                    (Hop (isa_Encode.T 21) (isa_Encode.T 21) (isa_Encode.j21 K w a false i0 i1 i2 i3 i4 i5 i6 i7 r0 r1 r2 r3 r4 r5 r6 σ))))
                (cond (!a)
                  (cond i6
                    (Hop (isa_Encode.T 21) (isa_Encode.T 21) (isa_Encode.j21 K w a true i0 i1 i2 i3 i4 i5 i6 i7 r0 r1 r2 r3 r4 r5 r6 σ))
                    (Hop (isa_Encode.T 21) (isa_Encode.T 21) (isa_Encode.j21 K w a i7 i0 i1 i2 i3 i4 i5 i6 i7 r0 r1 r2 r3 r4 r5 r6 σ)))
                  (Hop (isa_Encode.T 21) (isa_Encode.T 21) (isa_Encode.j21 K w a false i0 i1 i2 i3 i4 i5 i6 i7 r0 r1 r2 r3 r4 r5 r6 σ))))))
          (cond (!imm)
            (cond (i5 != 0)
              (Hop (isa_Encode.T 21) (isa_Encode.T 21) (isa_Encode.j21 K w a true i0 i1 i2 i3 i4 i5 i6 i7 r0 r1 r2 r3 r4 r5 r6 σ))
              (cond (!c)
                (cond (i4 != 0)
                  (Hop (isa_Encode.T 21) (isa_Encode.T 21) (isa_Encode.j21 K w a true i0 i1 i2 i3 i4 i5 i6 i7 r0 r1 r2 r3 r4 r5 r6 σ))
                  (cond (!a)
                    (cond i6
                      (Hop (isa_Encode.T 21) (isa_Encode.T 21) (isa_Encode.j21 K w a true i0 i1 i2 i3 i4 i5 i6 i7 r0 r1 r2 r3 r4 r5 r6 σ))
                      (Hop (isa_Encode.T 21) (isa_Encode.T 21) (isa_Encode.j21 K w a i7 i0 i1 i2 i3 i4 i5 i6 i7 r0 r1 r2 r3 r4 r5 r6 σ)))
                    (Hop (isa_Encode.T 21) (isa_Encode.T 21) (isa_Encode.j21 K w a false i0 i1 i2 i3 i4 i5 i6 i7 r0 r1 r2 r3 r4 r5 r6 σ))))
                (cond (!a)
                  (cond i6
                    (Hop (isa_Encode.T 21) (isa_Encode.T 21) (isa_Encode.j21 K w a true i0 i1 i2 i3 i4 i5 i6 i7 r0 r1 r2 r3 r4 r5 r6 σ))
                    (Hop (isa_Encode.T 21) (isa_Encode.T 21) (isa_Encode.j21 K w a i7 i0 i1 i2 i3 i4 i5 i6 i7 r0 r1 r2 r3 r4 r5 r6 σ)))
                  (Hop (isa_Encode.T 21) (isa_Encode.T 21) (isa_Encode.j21 K w a false i0 i1 i2 i3 i4 i5 i6 i7 r0 r1 r2 r3 r4 r5 r6 σ)))))
            (cond (!c)
              (cond (i4 != 0)
                (Hop (isa_Encode.T 21) (isa_Encode.T 21) (isa_Encode.j21 K w a true i0 i1 i2 i3 i4 i5 i6 i7 r0 r1 r2 r3 r4 r5 r6 σ))
                (cond (!a)
                  (cond i6
                    (Hop (isa_Encode.T 21) (isa_Encode.T 21) (isa_Encode.j21 K w a true i0 i1 i2 i3 i4 i5 i6 i7 r0 r1 r2 r3 r4 r5 r6 σ))
                    (Hop (isa_Encode.T 21) (isa_Encode.T 21) (isa_Encode.j21 K w a i7 i0 i1 i2 i3 i4 i5 i6 i7 r0 r1 r2 r3 r4 r5 r6 σ)))
                  (Hop (isa_Encode.T 21) (isa_Encode.T 21) (isa_Encode.j21 K w a false i0 i1 i2 i3 i4 i5 i6 i7 r0 r1 r2 r3 r4 r5 r6 σ))))
              (cond (!a)
                (cond i6
                  (Hop (isa_Encode.T 21) (isa_Encode.T 21) (isa_Encode.j21 K w a true i0 i1 i2 i3 i4 i5 i6 i7 r0 r1 r2 r3 r4 r5 r6 σ))
                  (Hop (isa_Encode.T 21) (isa_Encode.T 21) (isa_Encode.j21 K w a i7 i0 i1 i2 i3 i4 i5 i6 i7 r0 r1 r2 r3 r4 r5 r6 σ)))
                (Hop (isa_Encode.T 21) (isa_Encode.T 21) (isa_Encode.j21 K w a false i0 i1 i2 i3 i4 i5 i6 i7 r0 r1 r2 r3 r4 r5 r6 σ)))))))
      (cond (!rs2)
        (cond (i3 != 0)
          (Hop (isa_Encode.T 21) (isa_Encode.T 21) (isa_Encode.j21 K w a true i0 i1 i2 i3 i4 i5 i6 i7 r0 r1 r2 r3 r4 r5 r6 σ))
          (cond (!imm)
            (cond (i5 != 0)
              (Hop (isa_Encode.T 21) (isa_Encode.T 21) (isa_Encode.j21 K w a true i0 i1 i2 i3 i4 i5 i6 i7 r0 r1 r2 r3 r4 r5 r6 σ))
              (cond (!c)
                (cond (i4 != 0)
                  (Hop (isa_Encode.T 21) (isa_Encode.T 21) (isa_Encode.j21 K w a true i0 i1 i2 i3 i4 i5 i6 i7 r0 r1 r2 r3 r4 r5 r6 σ))
                  (cond (!a)
                    (cond i6
                      (Hop (isa_Encode.T 21) (isa_Encode.T 21) (isa_Encode.j21 K w a true i0 i1 i2 i3 i4 i5 i6 i7 r0 r1 r2 r3 r4 r5 r6 σ))
                      (Hop (isa_Encode.T 21) (isa_Encode.T 21) (isa_Encode.j21 K w a i7 i0 i1 i2 i3 i4 i5 i6 i7 r0 r1 r2 r3 r4 r5 r6 σ)))
                    (Hop (isa_Encode.T 21) (isa_Encode.T 21) (isa_Encode.j21 K w a false i0 i1 i2 i3 i4 i5 i6 i7 r0 r1 r2 r3 r4 r5 r6 σ))))
                (cond (!a)
                  (cond i6
                    (Hop (isa_Encode.T 21) (isa_Encode.T 21) (isa_Encode.j21 K w a true i0 i1 i2 i3 i4 i5 i6 i7 r0 r1 r2 r3 r4 r5 r6 σ))
                    (Hop (isa_Encode.T 21) (isa_Encode.T 21) (isa_Encode.j21 K w a i7 i0 i1 i2 i3 i4 i5 i6 i7 r0 r1 r2 r3 r4 r5 r6 σ)))
                  (Hop (isa_Encode.T 21) (isa_Encode.T 21) (isa_Encode.j21 K w a false i0 i1 i2 i3 i4 i5 i6 i7 r0 r1 r2 r3 r4 r5 r6 σ)))))
            (cond (!c)
              (cond (i4 != 0)
                (Hop (isa_Encode.T 21) (isa_Encode.T 21) (isa_Encode.j21 K w a true i0 i1 i2 i3 i4 i5 i6 i7 r0 r1 r2 r3 r4 r5 r6 σ))
                (cond (!a)
                  (cond i6
                    (Hop (isa_Encode.T 21) (isa_Encode.T 21) (isa_Encode.j21 K w a true i0 i1 i2 i3 i4 i5 i6 i7 r0 r1 r2 r3 r4 r5 r6 σ))
                    (Hop (isa_Encode.T 21) (isa_Encode.T 21) (isa_Encode.j21 K w a i7 i0 i1 i2 i3 i4 i5 i6 i7 r0 r1 r2 r3 r4 r5 r6 σ)))
                  (Hop (isa_Encode.T 21) (isa_Encode.T 21) (isa_Encode.j21 K w a false i0 i1 i2 i3 i4 i5 i6 i7 r0 r1 r2 r3 r4 r5 r6 σ))))
              (cond (!a)
                (cond i6
                  (Hop (isa_Encode.T 21) (isa_Encode.T 21) (isa_Encode.j21 K w a true i0 i1 i2 i3 i4 i5 i6 i7 r0 r1 r2 r3 r4 r5 r6 σ))
                  (Hop (isa_Encode.T 21) (isa_Encode.T 21) (isa_Encode.j21 K w a i7 i0 i1 i2 i3 i4 i5 i6 i7 r0 r1 r2 r3 r4 r5 r6 σ)))
                (Hop (isa_Encode.T 21) (isa_Encode.T 21) (isa_Encode.j21 K w a false i0 i1 i2 i3 i4 i5 i6 i7 r0 r1 r2 r3 r4 r5 r6 σ))))))
        (cond (!imm)
          (cond (i5 != 0)
            (Hop (isa_Encode.T 21) (isa_Encode.T 21) (isa_Encode.j21 K w a true i0 i1 i2 i3 i4 i5 i6 i7 r0 r1 r2 r3 r4 r5 r6 σ))
            (cond (!c)
              (cond (i4 != 0)
                (Hop (isa_Encode.T 21) (isa_Encode.T 21) (isa_Encode.j21 K w a true i0 i1 i2 i3 i4 i5 i6 i7 r0 r1 r2 r3 r4 r5 r6 σ))
                (cond (!a)
                  (cond i6
                    (Hop (isa_Encode.T 21) (isa_Encode.T 21) (isa_Encode.j21 K w a true i0 i1 i2 i3 i4 i5 i6 i7 r0 r1 r2 r3 r4 r5 r6 σ))
                    (Hop (isa_Encode.T 21) (isa_Encode.T 21) (isa_Encode.j21 K w a i7 i0 i1 i2 i3 i4 i5 i6 i7 r0 r1 r2 r3 r4 r5 r6 σ)))
                  (Hop (isa_Encode.T 21) (isa_Encode.T 21) (isa_Encode.j21 K w a false i0 i1 i2 i3 i4 i5 i6 i7 r0 r1 r2 r3 r4 r5 r6 σ))))
              (cond (!a)
                (cond i6
                  (Hop (isa_Encode.T 21) (isa_Encode.T 21) (isa_Encode.j21 K w a true i0 i1 i2 i3 i4 i5 i6 i7 r0 r1 r2 r3 r4 r5 r6 σ))
                  (Hop (isa_Encode.T 21) (isa_Encode.T 21) (isa_Encode.j21 K w a i7 i0 i1 i2 i3 i4 i5 i6 i7 r0 r1 r2 r3 r4 r5 r6 σ)))
                (Hop (isa_Encode.T 21) (isa_Encode.T 21) (isa_Encode.j21 K w a false i0 i1 i2 i3 i4 i5 i6 i7 r0 r1 r2 r3 r4 r5 r6 σ)))))
          (cond (!c)
            (cond (i4 != 0)
              (Hop (isa_Encode.T 21) (isa_Encode.T 21) (isa_Encode.j21 K w a true i0 i1 i2 i3 i4 i5 i6 i7 r0 r1 r2 r3 r4 r5 r6 σ))
              (cond (!a)
                (cond i6
                  (Hop (isa_Encode.T 21) (isa_Encode.T 21) (isa_Encode.j21 K w a true i0 i1 i2 i3 i4 i5 i6 i7 r0 r1 r2 r3 r4 r5 r6 σ))
                  (Hop (isa_Encode.T 21) (isa_Encode.T 21) (isa_Encode.j21 K w a i7 i0 i1 i2 i3 i4 i5 i6 i7 r0 r1 r2 r3 r4 r5 r6 σ)))
                (Hop (isa_Encode.T 21) (isa_Encode.T 21) (isa_Encode.j21 K w a false i0 i1 i2 i3 i4 i5 i6 i7 r0 r1 r2 r3 r4 r5 r6 σ))))
            (cond (!a)
              (cond i6
                (Hop (isa_Encode.T 21) (isa_Encode.T 21) (isa_Encode.j21 K w a true i0 i1 i2 i3 i4 i5 i6 i7 r0 r1 r2 r3 r4 r5 r6 σ))
                (Hop (isa_Encode.T 21) (isa_Encode.T 21) (isa_Encode.j21 K w a i7 i0 i1 i2 i3 i4 i5 i6 i7 r0 r1 r2 r3 r4 r5 r6 σ)))
              (Hop (isa_Encode.T 21) (isa_Encode.T 21) (isa_Encode.j21 K w a false i0 i1 i2 i3 i4 i5 i6 i7 r0 r1 r2 r3 r4 r5 r6 σ))))))))
  (cond (!rs1)
    (cond (i2 != 0)
      (Hop (isa_Encode.T 21) (isa_Encode.T 21) (isa_Encode.j21 K w a true i0 i1 i2 i3 i4 i5 i6 i7 r0 r1 r2 r3 r4 r5 r6 σ))
      (cond (!rs2)
        (cond (i3 != 0)
          (Hop (isa_Encode.T 21) (isa_Encode.T 21) (isa_Encode.j21 K w a true i0 i1 i2 i3 i4 i5 i6 i7 r0 r1 r2 r3 r4 r5 r6 σ))
          (cond (!imm)
            (cond (i5 != 0)
              (Hop (isa_Encode.T 21) (isa_Encode.T 21) (isa_Encode.j21 K w a true i0 i1 i2 i3 i4 i5 i6 i7 r0 r1 r2 r3 r4 r5 r6 σ))
              (cond (!c)
                (cond (i4 != 0)
                  (Hop (isa_Encode.T 21) (isa_Encode.T 21) (isa_Encode.j21 K w a true i0 i1 i2 i3 i4 i5 i6 i7 r0 r1 r2 r3 r4 r5 r6 σ))
                  (cond (!a)
                    (cond i6
                      (Hop (isa_Encode.T 21) (isa_Encode.T 21) (isa_Encode.j21 K w a true i0 i1 i2 i3 i4 i5 i6 i7 r0 r1 r2 r3 r4 r5 r6 σ))
                      (Hop (isa_Encode.T 21) (isa_Encode.T 21) (isa_Encode.j21 K w a i7 i0 i1 i2 i3 i4 i5 i6 i7 r0 r1 r2 r3 r4 r5 r6 σ)))
                    (Hop (isa_Encode.T 21) (isa_Encode.T 21) (isa_Encode.j21 K w a false i0 i1 i2 i3 i4 i5 i6 i7 r0 r1 r2 r3 r4 r5 r6 σ))))
                (cond (!a)
                  (cond i6
                    (Hop (isa_Encode.T 21) (isa_Encode.T 21) (isa_Encode.j21 K w a true i0 i1 i2 i3 i4 i5 i6 i7 r0 r1 r2 r3 r4 r5 r6 σ))
                    (Hop (isa_Encode.T 21) (isa_Encode.T 21) (isa_Encode.j21 K w a i7 i0 i1 i2 i3 i4 i5 i6 i7 r0 r1 r2 r3 r4 r5 r6 σ)))
                  (Hop (isa_Encode.T 21) (isa_Encode.T 21) (isa_Encode.j21 K w a false i0 i1 i2 i3 i4 i5 i6 i7 r0 r1 r2 r3 r4 r5 r6 σ)))))
            (cond (!c)
              (cond (i4 != 0)
                (Hop (isa_Encode.T 21) (isa_Encode.T 21) (isa_Encode.j21 K w a true i0 i1 i2 i3 i4 i5 i6 i7 r0 r1 r2 r3 r4 r5 r6 σ))
                (cond (!a)
                  (cond i6
                    (Hop (isa_Encode.T 21) (isa_Encode.T 21) (isa_Encode.j21 K w a true i0 i1 i2 i3 i4 i5 i6 i7 r0 r1 r2 r3 r4 r5 r6 σ))
                    (Hop (isa_Encode.T 21) (isa_Encode.T 21) (isa_Encode.j21 K w a i7 i0 i1 i2 i3 i4 i5 i6 i7 r0 r1 r2 r3 r4 r5 r6 σ)))
                  (Hop (isa_Encode.T 21) (isa_Encode.T 21) (isa_Encode.j21 K w a false i0 i1 i2 i3 i4 i5 i6 i7 r0 r1 r2 r3 r4 r5 r6 σ))))
              (cond (!a)
                (cond i6
                  (Hop (isa_Encode.T 21) (isa_Encode.T 21) (isa_Encode.j21 K w a true i0 i1 i2 i3 i4 i5 i6 i7 r0 r1 r2 r3 r4 r5 r6 σ))
                  (Hop (isa_Encode.T 21) (isa_Encode.T 21) (isa_Encode.j21 K w a i7 i0 i1 i2 i3 i4 i5 i6 i7 r0 r1 r2 r3 r4 r5 r6 σ)))
                (Hop (isa_Encode.T 21) (isa_Encode.T 21) (isa_Encode.j21 K w a false i0 i1 i2 i3 i4 i5 i6 i7 r0 r1 r2 r3 r4 r5 r6 σ))))))
        (cond (!imm)
          (cond (i5 != 0)
            (Hop (isa_Encode.T 21) (isa_Encode.T 21) (isa_Encode.j21 K w a true i0 i1 i2 i3 i4 i5 i6 i7 r0 r1 r2 r3 r4 r5 r6 σ))
            (cond (!c)
              (cond (i4 != 0)
                (Hop (isa_Encode.T 21) (isa_Encode.T 21) (isa_Encode.j21 K w a true i0 i1 i2 i3 i4 i5 i6 i7 r0 r1 r2 r3 r4 r5 r6 σ))
                (cond (!a)
                  (cond i6
                    (Hop (isa_Encode.T 21) (isa_Encode.T 21) (isa_Encode.j21 K w a true i0 i1 i2 i3 i4 i5 i6 i7 r0 r1 r2 r3 r4 r5 r6 σ))
                    (Hop (isa_Encode.T 21) (isa_Encode.T 21) (isa_Encode.j21 K w a i7 i0 i1 i2 i3 i4 i5 i6 i7 r0 r1 r2 r3 r4 r5 r6 σ)))
                  (Hop (isa_Encode.T 21) (isa_Encode.T 21) (isa_Encode.j21 K w a false i0 i1 i2 i3 i4 i5 i6 i7 r0 r1 r2 r3 r4 r5 r6 σ))))
              (cond (!a)
                (cond i6
                  (Hop (isa_Encode.T 21) (isa_Encode.T 21) (isa_Encode.j21 K w a true i0 i1 i2 i3 i4 i5 i6 i7 r0 r1 r2 r3 r4 r5 r6 σ))
                  (Hop (isa_Encode.T 21) (isa_Encode.T 21) (isa_Encode.j21 K w a i7 i0 i1 i2 i3 i4 i5 i6 i7 r0 r1 r2 r3 r4 r5 r6 σ)))
                (Hop (isa_Encode.T 21) (isa_Encode.T 21) (isa_Encode.j21 K w a false i0 i1 i2 i3 i4 i5 i6 i7 r0 r1 r2 r3 r4 r5 r6 σ)))))
          (cond (!c)
            (cond (i4 != 0)
              (Hop (isa_Encode.T 21) (isa_Encode.T 21) (isa_Encode.j21 K w a true i0 i1 i2 i3 i4 i5 i6 i7 r0 r1 r2 r3 r4 r5 r6 σ))
              (cond (!a)
                (cond i6
                  (Hop (isa_Encode.T 21) (isa_Encode.T 21) (isa_Encode.j21 K w a true i0 i1 i2 i3 i4 i5 i6 i7 r0 r1 r2 r3 r4 r5 r6 σ))
                  (Hop (isa_Encode.T 21) (isa_Encode.T 21) (isa_Encode.j21 K w a i7 i0 i1 i2 i3 i4 i5 i6 i7 r0 r1 r2 r3 r4 r5 r6 σ)))
                (Hop (isa_Encode.T 21) (isa_Encode.T 21) (isa_Encode.j21 K w a false i0 i1 i2 i3 i4 i5 i6 i7 r0 r1 r2 r3 r4 r5 r6 σ))))
            (cond (!a)
              (cond i6
                (Hop (isa_Encode.T 21) (isa_Encode.T 21) (isa_Encode.j21 K w a true i0 i1 i2 i3 i4 i5 i6 i7 r0 r1 r2 r3 r4 r5 r6 σ))
                (Hop (isa_Encode.T 21) (isa_Encode.T 21) (isa_Encode.j21 K w a i7 i0 i1 i2 i3 i4 i5 i6 i7 r0 r1 r2 r3 r4 r5 r6 σ)))
              (Hop (isa_Encode.T 21) (isa_Encode.T 21) (isa_Encode.j21 K w a false i0 i1 i2 i3 i4 i5 i6 i7 r0 r1 r2 r3 r4 r5 r6 σ)))))))
    (cond (!rs2)
      (cond (i3 != 0)
        (Hop (isa_Encode.T 21) (isa_Encode.T 21) (isa_Encode.j21 K w a true i0 i1 i2 i3 i4 i5 i6 i7 r0 r1 r2 r3 r4 r5 r6 σ))
        (cond (!imm)
          (cond (i5 != 0)
            (Hop (isa_Encode.T 21) (isa_Encode.T 21) (isa_Encode.j21 K w a true i0 i1 i2 i3 i4 i5 i6 i7 r0 r1 r2 r3 r4 r5 r6 σ))
            (cond (!c)
              (cond (i4 != 0)
                (Hop (isa_Encode.T 21) (isa_Encode.T 21) (isa_Encode.j21 K w a true i0 i1 i2 i3 i4 i5 i6 i7 r0 r1 r2 r3 r4 r5 r6 σ))
                (cond (!a)
                  (cond i6
                    (Hop (isa_Encode.T 21) (isa_Encode.T 21) (isa_Encode.j21 K w a true i0 i1 i2 i3 i4 i5 i6 i7 r0 r1 r2 r3 r4 r5 r6 σ))
                    (Hop (isa_Encode.T 21) (isa_Encode.T 21) (isa_Encode.j21 K w a i7 i0 i1 i2 i3 i4 i5 i6 i7 r0 r1 r2 r3 r4 r5 r6 σ)))
                  (Hop (isa_Encode.T 21) (isa_Encode.T 21) (isa_Encode.j21 K w a false i0 i1 i2 i3 i4 i5 i6 i7 r0 r1 r2 r3 r4 r5 r6 σ))))
              (cond (!a)
                (cond i6
                  (Hop (isa_Encode.T 21) (isa_Encode.T 21) (isa_Encode.j21 K w a true i0 i1 i2 i3 i4 i5 i6 i7 r0 r1 r2 r3 r4 r5 r6 σ))
                  (Hop (isa_Encode.T 21) (isa_Encode.T 21) (isa_Encode.j21 K w a i7 i0 i1 i2 i3 i4 i5 i6 i7 r0 r1 r2 r3 r4 r5 r6 σ)))
                (Hop (isa_Encode.T 21) (isa_Encode.T 21) (isa_Encode.j21 K w a false i0 i1 i2 i3 i4 i5 i6 i7 r0 r1 r2 r3 r4 r5 r6 σ)))))
          (cond (!c)
            (cond (i4 != 0)
              (Hop (isa_Encode.T 21) (isa_Encode.T 21) (isa_Encode.j21 K w a true i0 i1 i2 i3 i4 i5 i6 i7 r0 r1 r2 r3 r4 r5 r6 σ))
              (cond (!a)
                (cond i6
                  (Hop (isa_Encode.T 21) (isa_Encode.T 21) (isa_Encode.j21 K w a true i0 i1 i2 i3 i4 i5 i6 i7 r0 r1 r2 r3 r4 r5 r6 σ))
                  (Hop (isa_Encode.T 21) (isa_Encode.T 21) (isa_Encode.j21 K w a i7 i0 i1 i2 i3 i4 i5 i6 i7 r0 r1 r2 r3 r4 r5 r6 σ)))
                (Hop (isa_Encode.T 21) (isa_Encode.T 21) (isa_Encode.j21 K w a false i0 i1 i2 i3 i4 i5 i6 i7 r0 r1 r2 r3 r4 r5 r6 σ))))
            (cond (!a)
              (cond i6
                (Hop (isa_Encode.T 21) (isa_Encode.T 21) (isa_Encode.j21 K w a true i0 i1 i2 i3 i4 i5 i6 i7 r0 r1 r2 r3 r4 r5 r6 σ))
                (Hop (isa_Encode.T 21) (isa_Encode.T 21) (isa_Encode.j21 K w a i7 i0 i1 i2 i3 i4 i5 i6 i7 r0 r1 r2 r3 r4 r5 r6 σ)))
              (Hop (isa_Encode.T 21) (isa_Encode.T 21) (isa_Encode.j21 K w a false i0 i1 i2 i3 i4 i5 i6 i7 r0 r1 r2 r3 r4 r5 r6 σ))))))
      (cond (!imm)
        (cond (i5 != 0)
          (Hop (isa_Encode.T 21) (isa_Encode.T 21) (isa_Encode.j21 K w a true i0 i1 i2 i3 i4 i5 i6 i7 r0 r1 r2 r3 r4 r5 r6 σ))
          (cond (!c)
            (cond (i4 != 0)
              (Hop (isa_Encode.T 21) (isa_Encode.T 21) (isa_Encode.j21 K w a true i0 i1 i2 i3 i4 i5 i6 i7 r0 r1 r2 r3 r4 r5 r6 σ))
              (cond (!a)
                (cond i6
                  (Hop (isa_Encode.T 21) (isa_Encode.T 21) (isa_Encode.j21 K w a true i0 i1 i2 i3 i4 i5 i6 i7 r0 r1 r2 r3 r4 r5 r6 σ))
                  (Hop (isa_Encode.T 21) (isa_Encode.T 21) (isa_Encode.j21 K w a i7 i0 i1 i2 i3 i4 i5 i6 i7 r0 r1 r2 r3 r4 r5 r6 σ)))
                (Hop (isa_Encode.T 21) (isa_Encode.T 21) (isa_Encode.j21 K w a false i0 i1 i2 i3 i4 i5 i6 i7 r0 r1 r2 r3 r4 r5 r6 σ))))
            (cond (!a)
              (cond i6
                (Hop (isa_Encode.T 21) (isa_Encode.T 21) (isa_Encode.j21 K w a true i0 i1 i2 i3 i4 i5 i6 i7 r0 r1 r2 r3 r4 r5 r6 σ))
                (Hop (isa_Encode.T 21) (isa_Encode.T 21) (isa_Encode.j21 K w a i7 i0 i1 i2 i3 i4 i5 i6 i7 r0 r1 r2 r3 r4 r5 r6 σ)))
              (Hop (isa_Encode.T 21) (isa_Encode.T 21) (isa_Encode.j21 K w a false i0 i1 i2 i3 i4 i5 i6 i7 r0 r1 r2 r3 r4 r5 r6 σ)))))
        (cond (!c)
          (cond (i4 != 0)
            (Hop (isa_Encode.T 21) (isa_Encode.T 21) (isa_Encode.j21 K w a true i0 i1 i2 i3 i4 i5 i6 i7 r0 r1 r2 r3 r4 r5 r6 σ))
            (cond (!a)
              (cond i6
                (Hop (isa_Encode.T 21) (isa_Encode.T 21) (isa_Encode.j21 K w a true i0 i1 i2 i3 i4 i5 i6 i7 r0 r1 r2 r3 r4 r5 r6 σ))
                (Hop (isa_Encode.T 21) (isa_Encode.T 21) (isa_Encode.j21 K w a i7 i0 i1 i2 i3 i4 i5 i6 i7 r0 r1 r2 r3 r4 r5 r6 σ)))
              (Hop (isa_Encode.T 21) (isa_Encode.T 21) (isa_Encode.j21 K w a false i0 i1 i2 i3 i4 i5 i6 i7 r0 r1 r2 r3 r4 r5 r6 σ))))
          (cond (!a)
            (cond i6
              (Hop (isa_Encode.T 21) (isa_Encode.T 21) (isa_Encode.j21 K w a true i0 i1 i2 i3 i4 i5 i6 i7 r0 r1 r2 r3 r4 r5 r6 σ))
              (Hop (isa_Encode.T 21) (isa_Encode.T 21) (isa_Encode.j21 K w a i7 i0 i1 i2 i3 i4 i5 i6 i7 r0 r1 r2 r3 r4 r5 r6 σ)))
            (Hop (isa_Encode.T 21) (isa_Encode.T 21) (isa_Encode.j21 K w a false i0 i1 i2 i3 i4 i5 i6 i7 r0 r1 r2 r3 r4 r5 r6 σ)))))))
def isa_Encode.d19 (g : isa_Encode.R19) : List AV → List (List Value) → Store → Prop
  | [.v (.bool rd), .v (.bool rs1), .v (.bool rs2), .v (.bool imm), .v (.int .u32 w), .v (.bool c)], [[.int .i64 i0, .int .i64 i1, .int .i64 i2, .int .i64 i3, .int .i64 i4, .int .u32 i5, .bool i6, .bool i7], [.int .i64 r0, .string r1, .int .i64 r2, .int .u32 r3, .int .u32 r4, .int .u32 r5, .int .i64 r6]], σ => g rd rs1 rs2 imm w c i0 i1 i2 i3 i4 i5 i6 i7 r0 r1 r2 r3 r4 r5 r6 σ
  | _, _, _ => False
def isa_Encode.S19 (K : Value → Store → Prop) (rd rs1 rs2 imm : Bool) (w : Int) (c : Bool) (i0 i1 i2 i3 i4 i5 : Int) (i6 i7 : Bool) (r0 : Int) (r1 : ByteArray) (r2 r3 r4 r5 r6 : Int) (σ : Store) : Prop := SndF Pr F.isa_Encode isa_Encode.H isa_Encode.T K 19 [.v (.bool rd), .v (.bool rs1), .v (.bool rs2), .v (.bool imm), .v (.int .u32 w), .v (.bool c)] [[.int .i64 i0, .int .i64 i1, .int .i64 i2, .int .i64 i3, .int .i64 i4, .int .u32 i5, .bool i6, .bool i7], [.int .i64 r0, .string r1, .int .i64 r2, .int .u32 r3, .int .u32 r4, .int .u32 r5, .int .i64 r6]] σ
def isa_Encode.j19 (K : Value → Store → Prop) (rd rs1 rs2 imm : Bool) (w : Int) (c : Bool) (i0 i1 i2 i3 i4 i5 : Int) (i6 i7 : Bool) (r0 : Int) (r1 : ByteArray) (r2 r3 r4 r5 r6 : Int) (σ : Store) : Prop :=
  cond (r2 == 12)
  (Hop (isa_Encode.T 20) (isa_Encode.T 20) (isa_Encode.j20 K rd rs1 rs2 imm w c true i0 i1 i2 i3 i4 i5 i6 i7 r0 r1 r2 r3 r4 r5 r6 σ))
  (Hop (isa_Encode.T 20) (isa_Encode.T 20) (isa_Encode.j20 K rd rs1 rs2 imm w c (r2 == 13) i0 i1 i2 i3 i4 i5 i6 i7 r0 r1 r2 r3 r4 r5 r6 σ))
def isa_Encode.d18 (g : isa_Encode.R18) : List AV → List (List Value) → Store → Prop
  | [.v (.bool rd), .v (.bool rs1), .v (.bool rs2), .v (.bool imm), .v (.int .u32 w)], [[.int .i64 i0, .int .i64 i1, .int .i64 i2, .int .i64 i3, .int .i64 i4, .int .u32 i5, .bool i6, .bool i7], [.int .i64 r0, .string r1, .int .i64 r2, .int .u32 r3, .int .u32 r4, .int .u32 r5, .int .i64 r6]], σ => g rd rs1 rs2 imm w i0 i1 i2 i3 i4 i5 i6 i7 r0 r1 r2 r3 r4 r5 r6 σ
  | _, _, _ => False
def isa_Encode.S18 (K : Value → Store → Prop) (rd rs1 rs2 imm : Bool) (w i0 i1 i2 i3 i4 i5 : Int) (i6 i7 : Bool) (r0 : Int) (r1 : ByteArray) (r2 r3 r4 r5 r6 : Int) (σ : Store) : Prop := SndF Pr F.isa_Encode isa_Encode.H isa_Encode.T K 18 [.v (.bool rd), .v (.bool rs1), .v (.bool rs2), .v (.bool imm), .v (.int .u32 w)] [[.int .i64 i0, .int .i64 i1, .int .i64 i2, .int .i64 i3, .int .i64 i4, .int .u32 i5, .bool i6, .bool i7], [.int .i64 r0, .string r1, .int .i64 r2, .int .u32 r3, .int .u32 r4, .int .u32 r5, .int .i64 r6]] σ
def isa_Encode.j18 (K : Value → Store → Prop) (rd rs1 rs2 imm : Bool) (w i0 i1 i2 i3 i4 i5 : Int) (i6 i7 : Bool) (r0 : Int) (r1 : ByteArray) (r2 r3 r4 r5 r6 : Int) (σ : Store) : Prop :=
  cond (r2 == 10)
  (Hop (isa_Encode.T 19) (isa_Encode.T 19) (isa_Encode.j19 K rd rs1 rs2 imm w true i0 i1 i2 i3 i4 i5 i6 i7 r0 r1 r2 r3 r4 r5 r6 σ))
  (Hop (isa_Encode.T 19) (isa_Encode.T 19) (isa_Encode.j19 K rd rs1 rs2 imm w (r2 == 11) i0 i1 i2 i3 i4 i5 i6 i7 r0 r1 r2 r3 r4 r5 r6 σ))
def isa_Encode.d12 (g : isa_Encode.R12) : List AV → List (List Value) → Store → Prop
  | [], [[.int .i64 i0, .int .i64 i1, .int .i64 i2, .int .i64 i3, .int .i64 i4, .int .u32 i5, .bool i6, .bool i7], [.int .i64 r0, .string r1, .int .i64 r2, .int .u32 r3, .int .u32 r4, .int .u32 r5, .int .i64 r6]], σ => g i0 i1 i2 i3 i4 i5 i6 i7 r0 r1 r2 r3 r4 r5 r6 σ
  | _, _, _ => False
def isa_Encode.S12 (K : Value → Store → Prop) (i0 i1 i2 i3 i4 i5 : Int) (i6 i7 : Bool) (r0 : Int) (r1 : ByteArray) (r2 r3 r4 r5 r6 : Int) (σ : Store) : Prop := SndF Pr F.isa_Encode isa_Encode.H isa_Encode.T K 12 [] [[.int .i64 i0, .int .i64 i1, .int .i64 i2, .int .i64 i3, .int .i64 i4, .int .u32 i5, .bool i6, .bool i7], [.int .i64 r0, .string r1, .int .i64 r2, .int .u32 r3, .int .u32 r4, .int .u32 r5, .int .i64 r6]] σ
def isa_Encode.j12 (K : Value → Store → Prop) (i0 i1 i2 i3 i4 i5 : Int) (i6 i7 : Bool) (r0 : Int) (r1 : ByteArray) (r2 r3 r4 r5 r6 : Int) (σ : Store) : Prop :=
  Spec Pr F.isa_row_uses [.agg #[.int .i64 r0, .string r1, .int .i64 r2, .int .u32 r3, .int .u32 r4, .int .u32 r5, .int .i64 r6]] σ fun v σ_ => ∃ t56a : Bool, ∃ t56b : Bool, ∃ t56c : Bool, ∃ t56d : Bool, v = .tuple #[.bool t56a, .bool t56b, .bool t56c, .bool t56d] ∧
  cond t56d
  (Spec Pr F.isa_row_lay [.agg #[.int .i64 r0, .string r1, .int .i64 r2, .int .u32 r3, .int .u32 r4, .int .u32 r5, .int .i64 r6], .int .u32 i5] σ_ fun v1 σ_1 => ∃ t66a : Int, ∃ t66b : Bool, v1 = .tuple #[.int .u32 t66a, .bool t66b] ∧
    cond (!t66b)
    (∃ t71 : Value, cellAt σ_1 1 0 = some (t71) ∧
      K (.tuple #[.int .u32 0, t71]) σ_1)
    (Hop (isa_Encode.T 18) (isa_Encode.T 18) (isa_Encode.j18 K t56a t56b t56c t56d t66a i0 i1 i2 i3 i4 i5 i6 i7 r0 r1 r2 r3 r4 r5 r6 σ_1)))
  (Hop (isa_Encode.T 18) (isa_Encode.T 18) (isa_Encode.j18 K t56a t56b t56c t56d 0 i0 i1 i2 i3 i4 i5 i6 i7 r0 r1 r2 r3 r4 r5 r6 σ_))
def isa_Encode.d11 (g : isa_Encode.R11) : List AV → List (List Value) → Store → Prop
  | [.v (.bool t52)], [[.int .i64 i0, .int .i64 i1, .int .i64 i2, .int .i64 i3, .int .i64 i4, .int .u32 i5, .bool i6, .bool i7], [.int .i64 r0, .string r1, .int .i64 r2, .int .u32 r3, .int .u32 r4, .int .u32 r5, .int .i64 r6]], σ => g t52 i0 i1 i2 i3 i4 i5 i6 i7 r0 r1 r2 r3 r4 r5 r6 σ
  | _, _, _ => False
def isa_Encode.S11 (K : Value → Store → Prop) (t52 : Bool) (i0 i1 i2 i3 i4 i5 : Int) (i6 i7 : Bool) (r0 : Int) (r1 : ByteArray) (r2 r3 r4 r5 r6 : Int) (σ : Store) : Prop := SndF Pr F.isa_Encode isa_Encode.H isa_Encode.T K 11 [.v (.bool t52)] [[.int .i64 i0, .int .i64 i1, .int .i64 i2, .int .i64 i3, .int .i64 i4, .int .u32 i5, .bool i6, .bool i7], [.int .i64 r0, .string r1, .int .i64 r2, .int .u32 r3, .int .u32 r4, .int .u32 r5, .int .i64 r6]] σ
def isa_Encode.j11 (K : Value → Store → Prop) (t52 : Bool) (i0 i1 i2 i3 i4 i5 : Int) (i6 i7 : Bool) (r0 : Int) (r1 : ByteArray) (r2 r3 r4 r5 r6 : Int) (σ : Store) : Prop :=
  cond t52
  (∃ t53 : Value, cellAt σ 1 0 = some (t53) ∧
    K (.tuple #[.int .u32 0, t53]) σ)
  (Hop (isa_Encode.T 12) (isa_Encode.T 12) (isa_Encode.j12 K i0 i1 i2 i3 i4 i5 i6 i7 r0 r1 r2 r3 r4 r5 r6 σ))
def isa_Encode.d10 (g : isa_Encode.R10) : List AV → List (List Value) → Store → Prop
  | [], [[.int .i64 i0, .int .i64 i1, .int .i64 i2, .int .i64 i3, .int .i64 i4, .int .u32 i5, .bool i6, .bool i7], [.int .i64 r0, .string r1, .int .i64 r2, .int .u32 r3, .int .u32 r4, .int .u32 r5, .int .i64 r6]], σ => g i0 i1 i2 i3 i4 i5 i6 i7 r0 r1 r2 r3 r4 r5 r6 σ
  | _, _, _ => False
def isa_Encode.S10 (K : Value → Store → Prop) (i0 i1 i2 i3 i4 i5 : Int) (i6 i7 : Bool) (r0 : Int) (r1 : ByteArray) (r2 r3 r4 r5 r6 : Int) (σ : Store) : Prop := SndF Pr F.isa_Encode isa_Encode.H isa_Encode.T K 10 [] [[.int .i64 i0, .int .i64 i1, .int .i64 i2, .int .i64 i3, .int .i64 i4, .int .u32 i5, .bool i6, .bool i7], [.int .i64 r0, .string r1, .int .i64 r2, .int .u32 r3, .int .u32 r4, .int .u32 r5, .int .i64 r6]] σ
def isa_Encode.j10 (K : Value → Store → Prop) (i0 i1 i2 i3 i4 i5 : Int) (i6 i7 : Bool) (r0 : Int) (r1 : ByteArray) (r2 r3 r4 r5 r6 : Int) (σ : Store) : Prop :=
  cond (decide (i4 < 0))
  (Hop (isa_Encode.T 11) (isa_Encode.T 11) (isa_Encode.j11 K true i0 i1 i2 i3 i4 i5 i6 i7 r0 r1 r2 r3 r4 r5 r6 σ))
  (Hop (isa_Encode.T 11) (isa_Encode.T 11) (isa_Encode.j11 K (decide (i4 > 4095)) i0 i1 i2 i3 i4 i5 i6 i7 r0 r1 r2 r3 r4 r5 r6 σ))
def isa_Encode.d5 (g : isa_Encode.R5) : List AV → List (List Value) → Store → Prop
  | [.v (.slice t31A t31N t31C), .v (.int .i64 t32), .v (.int .i64 t33)], [[.int .i64 i0, .int .i64 i1, .int .i64 i2, .int .i64 i3, .int .i64 i4, .int .u32 i5, .bool i6, .bool i7], [.int .i64 r0, .string r1, .int .i64 r2, .int .u32 r3, .int .u32 r4, .int .u32 r5, .int .i64 r6]], σ => g t31A t31N t31C t32 t33 i0 i1 i2 i3 i4 i5 i6 i7 r0 r1 r2 r3 r4 r5 r6 σ
  | _, _, _ => False
def isa_Encode.S5 (K : Value → Store → Prop) (t31A : Option Addr) (t31N t31C : Nat) (t32 t33 i0 i1 i2 i3 i4 i5 : Int) (i6 i7 : Bool) (r0 : Int) (r1 : ByteArray) (r2 r3 r4 r5 r6 : Int) (σ : Store) : Prop := SndF Pr F.isa_Encode isa_Encode.H isa_Encode.T K 5 [.v (.slice t31A t31N t31C), .v (.int .i64 t32), .v (.int .i64 t33)] [[.int .i64 i0, .int .i64 i1, .int .i64 i2, .int .i64 i3, .int .i64 i4, .int .u32 i5, .bool i6, .bool i7], [.int .i64 r0, .string r1, .int .i64 r2, .int .u32 r3, .int .u32 r4, .int .u32 r5, .int .i64 r6]] σ
def isa_Encode.b5 (K : Value → Store → Prop) (rr5 : isa_Encode.R5) (t31A : Option Addr) (t31N t31C : Nat) (t32 t33 i0 i1 i2 i3 i4 i5 : Int) (i6 i7 : Bool) (r0 : Int) (r1 : ByteArray) (r2 r3 r4 r5 r6 : Int) (σ : Store) : Prop :=
  cond (decide (t33 < t32))
  (Req (decide (0 ≤ t33) && decide (t33 < ((t31N : Nat) : Int))) (
      PtrNN t31A fun t35B t35O =>
      ∃ t36 : Int, cellAt σ t35B (t35O + t33.toNat * 1) = some (.int .i64 t36) ∧
      cond (decide (t36 < 0))
      (Hop (isa_Encode.T 8) (isa_Encode.T 8) (isa_Encode.j8 K rr5 t31A t31N t31C t32 t33 true i0 i1 i2 i3 i4 i5 i6 i7 r0 r1 r2 r3 r4 r5 r6 σ))
      (Hop (isa_Encode.T 8) (isa_Encode.T 8) (isa_Encode.j8 K rr5 t31A t31N t31C t32 t33 (decide (t36 > 31)) i0 i1 i2 i3 i4 i5 i6 i7 r0 r1 r2 r3 r4 r5 r6 σ))))
  (Hop (isa_Encode.T 10) (isa_Encode.T 10) (isa_Encode.j10 K i0 i1 i2 i3 i4 i5 i6 i7 r0 r1 r2 r3 r4 r5 r6 σ))
def isa_Encode.l5 (K : Value → Store → Prop) : Nat → isa_Encode.R5
  | 0, _, _, _, _, _, _, _, _, _, _, _, _, _, _, _, _, _, _, _, _, _ => False
  | n + 1, t31A, t31N, t31C, t32, t33, i0, i1, i2, i3, i4, i5, i6, i7, r0, r1, r2, r3, r4, r5, r6, σ => isa_Encode.b5 K (isa_Encode.l5 K n) t31A t31N t31C t32 t33 i0 i1 i2 i3 i4 i5 i6 i7 r0 r1 r2 r3 r4 r5 r6 σ
def isa_Encode.m (K : Value → Store → Prop) (i0 i1 i2 i3 i4 i5 : Int) (i6 i7 : Bool) (σ : Store) : Prop :=
  Spec Pr F.isa_find [.int .i64 i0] σ fun v σ_ => ∃ t19a0 : Int, ∃ t19a1 : ByteArray, ∃ t19a2 : Int, ∃ t19a3 : Int, ∃ t19a4 : Int, ∃ t19a5 : Int, ∃ t19a6 : Int, ∃ t19b : Bool, v = .tuple #[.agg #[.int .i64 t19a0, .string t19a1, .int .i64 t19a2, .int .u32 t19a3, .int .u32 t19a4, .int .u32 t19a5, .int .i64 t19a6], .bool t19b] ∧
  cond (!t19b)
  (∃ t24 : Value, cellAt σ_ 0 0 = some (t24) ∧
    K (.tuple #[.int .u32 0, t24]) σ_)
  (New σ_ ⟨3, [.int .i64 i1, .int .i64 i2, .int .i64 i3], (0, 0)⟩ fun t31B σ_1 =>
    Hop (isa_Encode.T 5) (isa_Encode.T 5) (∃ n : Nat, isa_Encode.l5 K n (some ⟨t31B, 0, none⟩) 3 3 3 0 i0 i1 i2 i3 i4 i5 i6 i7 t19a0 t19a1 t19a2 t19a3 t19a4 t19a5 t19a6 σ_1))
theorem isa_Encode.d9_ok {K : Value → Store → Prop} {g : isa_Encode.R9} (hg : ∀ t31A t31N t31C t32 t33 i0 i1 i2 i3 i4 i5 i6 i7 r0 r1 r2 r3 r4 r5 r6 σ, g t31A t31N t31C t32 t33 i0 i1 i2 i3 i4 i5 i6 i7 r0 r1 r2 r3 r4 r5 r6 σ → isa_Encode.S9 K t31A t31N t31C t32 t33 i0 i1 i2 i3 i4 i5 i6 i7 r0 r1 r2 r3 r4 r5 r6 σ) (vs : List AV) (bs : List (List Value)) (σ : Store) (h : isa_Encode.d9 g vs bs σ) : SndF Pr F.isa_Encode isa_Encode.H isa_Encode.T K 9 vs bs σ := by
  unfold isa_Encode.d9 at h
  split at h
  · exact hg _ _ _ _ _ _ _ _ _ _ _ _ _ _ _ _ _ _ _ _ _ h
  · exact h.elim
theorem isa_Encode.d8_ok {K : Value → Store → Prop} {g : isa_Encode.R8} (hg : ∀ t31A t31N t31C t32 t33 t42 i0 i1 i2 i3 i4 i5 i6 i7 r0 r1 r2 r3 r4 r5 r6 σ, g t31A t31N t31C t32 t33 t42 i0 i1 i2 i3 i4 i5 i6 i7 r0 r1 r2 r3 r4 r5 r6 σ → isa_Encode.S8 K t31A t31N t31C t32 t33 t42 i0 i1 i2 i3 i4 i5 i6 i7 r0 r1 r2 r3 r4 r5 r6 σ) (vs : List AV) (bs : List (List Value)) (σ : Store) (h : isa_Encode.d8 g vs bs σ) : SndF Pr F.isa_Encode isa_Encode.H isa_Encode.T K 8 vs bs σ := by
  unfold isa_Encode.d8 at h
  split at h
  · exact hg _ _ _ _ _ _ _ _ _ _ _ _ _ _ _ _ _ _ _ _ _ _ h
  · exact h.elim
theorem isa_Encode.d31_ok {K : Value → Store → Prop} {g : isa_Encode.R31} (hg : ∀ w f7 i0 i1 i2 i3 i4 i5 i6 i7 r0 r1 r2 r3 r4 r5 r6 σ, g w f7 i0 i1 i2 i3 i4 i5 i6 i7 r0 r1 r2 r3 r4 r5 r6 σ → isa_Encode.S31 K w f7 i0 i1 i2 i3 i4 i5 i6 i7 r0 r1 r2 r3 r4 r5 r6 σ) (vs : List AV) (bs : List (List Value)) (σ : Store) (h : isa_Encode.d31 g vs bs σ) : SndF Pr F.isa_Encode isa_Encode.H isa_Encode.T K 31 vs bs σ := by
  unfold isa_Encode.d31 at h
  split at h
  · exact hg _ _ _ _ _ _ _ _ _ _ _ _ _ _ _ _ _ _ h
  · exact h.elim
theorem isa_Encode.d29_ok {K : Value → Store → Prop} {g : isa_Encode.R29} (hg : ∀ w f7 i0 i1 i2 i3 i4 i5 i6 i7 r0 r1 r2 r3 r4 r5 r6 σ, g w f7 i0 i1 i2 i3 i4 i5 i6 i7 r0 r1 r2 r3 r4 r5 r6 σ → isa_Encode.S29 K w f7 i0 i1 i2 i3 i4 i5 i6 i7 r0 r1 r2 r3 r4 r5 r6 σ) (vs : List AV) (bs : List (List Value)) (σ : Store) (h : isa_Encode.d29 g vs bs σ) : SndF Pr F.isa_Encode isa_Encode.H isa_Encode.T K 29 vs bs σ := by
  unfold isa_Encode.d29 at h
  split at h
  · exact hg _ _ _ _ _ _ _ _ _ _ _ _ _ _ _ _ _ _ h
  · exact h.elim
theorem isa_Encode.d22_ok {K : Value → Store → Prop} {g : isa_Encode.R22} (hg : ∀ w a i0 i1 i2 i3 i4 i5 i6 i7 r0 r1 r2 r3 r4 r5 r6 σ, g w a i0 i1 i2 i3 i4 i5 i6 i7 r0 r1 r2 r3 r4 r5 r6 σ → isa_Encode.S22 K w a i0 i1 i2 i3 i4 i5 i6 i7 r0 r1 r2 r3 r4 r5 r6 σ) (vs : List AV) (bs : List (List Value)) (σ : Store) (h : isa_Encode.d22 g vs bs σ) : SndF Pr F.isa_Encode isa_Encode.H isa_Encode.T K 22 vs bs σ := by
  unfold isa_Encode.d22 at h
  split at h
  · exact hg _ _ _ _ _ _ _ _ _ _ _ _ _ _ _ _ _ _ h
  · exact h.elim
theorem isa_Encode.d21_ok {K : Value → Store → Prop} {g : isa_Encode.R21} (hg : ∀ w a t142 i0 i1 i2 i3 i4 i5 i6 i7 r0 r1 r2 r3 r4 r5 r6 σ, g w a t142 i0 i1 i2 i3 i4 i5 i6 i7 r0 r1 r2 r3 r4 r5 r6 σ → isa_Encode.S21 K w a t142 i0 i1 i2 i3 i4 i5 i6 i7 r0 r1 r2 r3 r4 r5 r6 σ) (vs : List AV) (bs : List (List Value)) (σ : Store) (h : isa_Encode.d21 g vs bs σ) : SndF Pr F.isa_Encode isa_Encode.H isa_Encode.T K 21 vs bs σ := by
  unfold isa_Encode.d21 at h
  split at h
  · exact hg _ _ _ _ _ _ _ _ _ _ _ _ _ _ _ _ _ _ _ h
  · exact h.elim
theorem isa_Encode.d20_ok {K : Value → Store → Prop} {g : isa_Encode.R20} (hg : ∀ rd rs1 rs2 imm w c a i0 i1 i2 i3 i4 i5 i6 i7 r0 r1 r2 r3 r4 r5 r6 σ, g rd rs1 rs2 imm w c a i0 i1 i2 i3 i4 i5 i6 i7 r0 r1 r2 r3 r4 r5 r6 σ → isa_Encode.S20 K rd rs1 rs2 imm w c a i0 i1 i2 i3 i4 i5 i6 i7 r0 r1 r2 r3 r4 r5 r6 σ) (vs : List AV) (bs : List (List Value)) (σ : Store) (h : isa_Encode.d20 g vs bs σ) : SndF Pr F.isa_Encode isa_Encode.H isa_Encode.T K 20 vs bs σ := by
  unfold isa_Encode.d20 at h
  split at h
  · exact hg _ _ _ _ _ _ _ _ _ _ _ _ _ _ _ _ _ _ _ _ _ _ _ h
  · exact h.elim
theorem isa_Encode.d19_ok {K : Value → Store → Prop} {g : isa_Encode.R19} (hg : ∀ rd rs1 rs2 imm w c i0 i1 i2 i3 i4 i5 i6 i7 r0 r1 r2 r3 r4 r5 r6 σ, g rd rs1 rs2 imm w c i0 i1 i2 i3 i4 i5 i6 i7 r0 r1 r2 r3 r4 r5 r6 σ → isa_Encode.S19 K rd rs1 rs2 imm w c i0 i1 i2 i3 i4 i5 i6 i7 r0 r1 r2 r3 r4 r5 r6 σ) (vs : List AV) (bs : List (List Value)) (σ : Store) (h : isa_Encode.d19 g vs bs σ) : SndF Pr F.isa_Encode isa_Encode.H isa_Encode.T K 19 vs bs σ := by
  unfold isa_Encode.d19 at h
  split at h
  · exact hg _ _ _ _ _ _ _ _ _ _ _ _ _ _ _ _ _ _ _ _ _ _ h
  · exact h.elim
theorem isa_Encode.d18_ok {K : Value → Store → Prop} {g : isa_Encode.R18} (hg : ∀ rd rs1 rs2 imm w i0 i1 i2 i3 i4 i5 i6 i7 r0 r1 r2 r3 r4 r5 r6 σ, g rd rs1 rs2 imm w i0 i1 i2 i3 i4 i5 i6 i7 r0 r1 r2 r3 r4 r5 r6 σ → isa_Encode.S18 K rd rs1 rs2 imm w i0 i1 i2 i3 i4 i5 i6 i7 r0 r1 r2 r3 r4 r5 r6 σ) (vs : List AV) (bs : List (List Value)) (σ : Store) (h : isa_Encode.d18 g vs bs σ) : SndF Pr F.isa_Encode isa_Encode.H isa_Encode.T K 18 vs bs σ := by
  unfold isa_Encode.d18 at h
  split at h
  · exact hg _ _ _ _ _ _ _ _ _ _ _ _ _ _ _ _ _ _ _ _ _ h
  · exact h.elim
theorem isa_Encode.d12_ok {K : Value → Store → Prop} {g : isa_Encode.R12} (hg : ∀ i0 i1 i2 i3 i4 i5 i6 i7 r0 r1 r2 r3 r4 r5 r6 σ, g i0 i1 i2 i3 i4 i5 i6 i7 r0 r1 r2 r3 r4 r5 r6 σ → isa_Encode.S12 K i0 i1 i2 i3 i4 i5 i6 i7 r0 r1 r2 r3 r4 r5 r6 σ) (vs : List AV) (bs : List (List Value)) (σ : Store) (h : isa_Encode.d12 g vs bs σ) : SndF Pr F.isa_Encode isa_Encode.H isa_Encode.T K 12 vs bs σ := by
  unfold isa_Encode.d12 at h
  split at h
  · exact hg _ _ _ _ _ _ _ _ _ _ _ _ _ _ _ _ h
  · exact h.elim
theorem isa_Encode.d11_ok {K : Value → Store → Prop} {g : isa_Encode.R11} (hg : ∀ t52 i0 i1 i2 i3 i4 i5 i6 i7 r0 r1 r2 r3 r4 r5 r6 σ, g t52 i0 i1 i2 i3 i4 i5 i6 i7 r0 r1 r2 r3 r4 r5 r6 σ → isa_Encode.S11 K t52 i0 i1 i2 i3 i4 i5 i6 i7 r0 r1 r2 r3 r4 r5 r6 σ) (vs : List AV) (bs : List (List Value)) (σ : Store) (h : isa_Encode.d11 g vs bs σ) : SndF Pr F.isa_Encode isa_Encode.H isa_Encode.T K 11 vs bs σ := by
  unfold isa_Encode.d11 at h
  split at h
  · exact hg _ _ _ _ _ _ _ _ _ _ _ _ _ _ _ _ _ h
  · exact h.elim
theorem isa_Encode.d10_ok {K : Value → Store → Prop} {g : isa_Encode.R10} (hg : ∀ i0 i1 i2 i3 i4 i5 i6 i7 r0 r1 r2 r3 r4 r5 r6 σ, g i0 i1 i2 i3 i4 i5 i6 i7 r0 r1 r2 r3 r4 r5 r6 σ → isa_Encode.S10 K i0 i1 i2 i3 i4 i5 i6 i7 r0 r1 r2 r3 r4 r5 r6 σ) (vs : List AV) (bs : List (List Value)) (σ : Store) (h : isa_Encode.d10 g vs bs σ) : SndF Pr F.isa_Encode isa_Encode.H isa_Encode.T K 10 vs bs σ := by
  unfold isa_Encode.d10 at h
  split at h
  · exact hg _ _ _ _ _ _ _ _ _ _ _ _ _ _ _ _ h
  · exact h.elim
theorem isa_Encode.d5_ok {K : Value → Store → Prop} {g : isa_Encode.R5} (hg : ∀ t31A t31N t31C t32 t33 i0 i1 i2 i3 i4 i5 i6 i7 r0 r1 r2 r3 r4 r5 r6 σ, g t31A t31N t31C t32 t33 i0 i1 i2 i3 i4 i5 i6 i7 r0 r1 r2 r3 r4 r5 r6 σ → isa_Encode.S5 K t31A t31N t31C t32 t33 i0 i1 i2 i3 i4 i5 i6 i7 r0 r1 r2 r3 r4 r5 r6 σ) (vs : List AV) (bs : List (List Value)) (σ : Store) (h : isa_Encode.d5 g vs bs σ) : SndF Pr F.isa_Encode isa_Encode.H isa_Encode.T K 5 vs bs σ := by
  unfold isa_Encode.d5 at h
  split at h
  · exact hg _ _ _ _ _ _ _ _ _ _ _ _ _ _ _ _ _ _ _ _ _ h
  · exact h.elim
noncomputable def isa_Encode.h9 (K : Value → Store → Prop) (rr5 : isa_Encode.R5) : Hand := hsel [(5, isa_Encode.d5 rr5)]
theorem isa_Encode.j9_eq (K : Value → Store → Prop) (rr5 : isa_Encode.R5) (t31A : Option Addr) (t31N t31C : Nat) (t32 t33 i0 i1 i2 i3 i4 i5 : Int) (i6 i7 : Bool) (r0 : Int) (r1 : ByteArray) (r2 r3 r4 r5 r6 : Int) (σ : Store) : (seg Pr isa_Encode.H F.isa_Encode isa_Encode.T (isa_Encode.h9 K rr5) K (isa_Encode.T 9) (Ev.cutE isa_Encode.H 9 [.v (.slice t31A t31N t31C), .v (.int .i64 t32), .v (.int .i64 t33)] [[.int .i64 i0, .int .i64 i1, .int .i64 i2, .int .i64 i3, .int .i64 i4, .int .u32 i5, .bool i6, .bool i7], [.int .i64 r0, .string r1, .int .i64 r2, .int .u32 r3, .int .u32 r4, .int .u32 r5, .int .i64 r6]]) σ) = isa_Encode.j9 K rr5 t31A t31N t31C t32 t33 i0 i1 i2 i3 i4 i5 i6 i7 r0 r1 r2 r3 r4 r5 r6 σ := by kernel_rfl
theorem isa_Encode.j9_ok (K : Value → Store → Prop) (rr5 : isa_Encode.R5) (hh5 : ∀ t31A t31N t31C t32 t33 i0 i1 i2 i3 i4 i5 i6 i7 r0 r1 r2 r3 r4 r5 r6 σ, rr5 t31A t31N t31C t32 t33 i0 i1 i2 i3 i4 i5 i6 i7 r0 r1 r2 r3 r4 r5 r6 σ → isa_Encode.S5 K t31A t31N t31C t32 t33 i0 i1 i2 i3 i4 i5 i6 i7 r0 r1 r2 r3 r4 r5 r6 σ) (t31A : Option Addr) (t31N t31C : Nat) (t32 t33 i0 i1 i2 i3 i4 i5 : Int) (i6 i7 : Bool) (r0 : Int) (r1 : ByteArray) (r2 r3 r4 r5 r6 : Int) (σ : Store) (h : isa_Encode.j9 K rr5 t31A t31N t31C t32 t33 i0 i1 i2 i3 i4 i5 i6 i7 r0 r1 r2 r3 r4 r5 r6 σ) : isa_Encode.S9 K t31A t31N t31C t32 t33 i0 i1 i2 i3 i4 i5 i6 i7 r0 r1 r2 r3 r4 r5 r6 σ := by
  rw [← isa_Encode.j9_eq] at h
  exact seg_snd Pr_mixed (hsel_sound fun x hx => by
    simp only [List.mem_cons, List.not_mem_nil, or_false] at hx
    subst hx
    exact isa_Encode.d5_ok hh5) h
noncomputable def isa_Encode.h8 (K : Value → Store → Prop) (rr5 : isa_Encode.R5) : Hand := hsel [(9, isa_Encode.d9 (isa_Encode.j9 K rr5)), (5, isa_Encode.d5 rr5)]
theorem isa_Encode.j8_eq (K : Value → Store → Prop) (rr5 : isa_Encode.R5) (t31A : Option Addr) (t31N t31C : Nat) (t32 t33 : Int) (t42 : Bool) (i0 i1 i2 i3 i4 i5 : Int) (i6 i7 : Bool) (r0 : Int) (r1 : ByteArray) (r2 r3 r4 r5 r6 : Int) (σ : Store) : (seg Pr isa_Encode.H F.isa_Encode isa_Encode.T (isa_Encode.h8 K rr5) K (isa_Encode.T 8) (Ev.cutE isa_Encode.H 8 [.v (.slice t31A t31N t31C), .v (.int .i64 t32), .v (.int .i64 t33), .v (.bool t42)] [[.int .i64 i0, .int .i64 i1, .int .i64 i2, .int .i64 i3, .int .i64 i4, .int .u32 i5, .bool i6, .bool i7], [.int .i64 r0, .string r1, .int .i64 r2, .int .u32 r3, .int .u32 r4, .int .u32 r5, .int .i64 r6]]) σ) = isa_Encode.j8 K rr5 t31A t31N t31C t32 t33 t42 i0 i1 i2 i3 i4 i5 i6 i7 r0 r1 r2 r3 r4 r5 r6 σ := by kernel_rfl
theorem isa_Encode.j8_ok (K : Value → Store → Prop) (rr5 : isa_Encode.R5) (hh5 : ∀ t31A t31N t31C t32 t33 i0 i1 i2 i3 i4 i5 i6 i7 r0 r1 r2 r3 r4 r5 r6 σ, rr5 t31A t31N t31C t32 t33 i0 i1 i2 i3 i4 i5 i6 i7 r0 r1 r2 r3 r4 r5 r6 σ → isa_Encode.S5 K t31A t31N t31C t32 t33 i0 i1 i2 i3 i4 i5 i6 i7 r0 r1 r2 r3 r4 r5 r6 σ) (t31A : Option Addr) (t31N t31C : Nat) (t32 t33 : Int) (t42 : Bool) (i0 i1 i2 i3 i4 i5 : Int) (i6 i7 : Bool) (r0 : Int) (r1 : ByteArray) (r2 r3 r4 r5 r6 : Int) (σ : Store) (h : isa_Encode.j8 K rr5 t31A t31N t31C t32 t33 t42 i0 i1 i2 i3 i4 i5 i6 i7 r0 r1 r2 r3 r4 r5 r6 σ) : isa_Encode.S8 K t31A t31N t31C t32 t33 t42 i0 i1 i2 i3 i4 i5 i6 i7 r0 r1 r2 r3 r4 r5 r6 σ := by
  rw [← isa_Encode.j8_eq] at h
  exact seg_snd Pr_mixed (hsel_sound fun x hx => by
    simp only [List.mem_cons, List.not_mem_nil, or_false] at hx
    rcases hx with rfl | rfl
    · exact isa_Encode.d9_ok fun _ _ _ _ _ _ _ _ _ _ _ _ _ _ _ _ _ _ _ _ _ h => isa_Encode.j9_ok K rr5 hh5 _ _ _ _ _ _ _ _ _ _ _ _ _ _ _ _ _ _ _ _ _ h
    · exact isa_Encode.d5_ok hh5) h
noncomputable def isa_Encode.h31 (K : Value → Store → Prop) : Hand := hsel []
theorem isa_Encode.j31_eq (K : Value → Store → Prop) (w f7 i0 i1 i2 i3 i4 i5 : Int) (i6 i7 : Bool) (r0 : Int) (r1 : ByteArray) (r2 r3 r4 r5 r6 : Int) (σ : Store) : (seg Pr isa_Encode.H F.isa_Encode isa_Encode.T (isa_Encode.h31 K ) K (isa_Encode.T 31) (Ev.cutE isa_Encode.H 31 [.v (.int .u32 w), .v (.int .u32 f7)] [[.int .i64 i0, .int .i64 i1, .int .i64 i2, .int .i64 i3, .int .i64 i4, .int .u32 i5, .bool i6, .bool i7], [.int .i64 r0, .string r1, .int .i64 r2, .int .u32 r3, .int .u32 r4, .int .u32 r5, .int .i64 r6]]) σ) = isa_Encode.j31 K w f7 i0 i1 i2 i3 i4 i5 i6 i7 r0 r1 r2 r3 r4 r5 r6 σ := by kernel_rfl
theorem isa_Encode.j31_ok (K : Value → Store → Prop) (w f7 i0 i1 i2 i3 i4 i5 : Int) (i6 i7 : Bool) (r0 : Int) (r1 : ByteArray) (r2 r3 r4 r5 r6 : Int) (σ : Store) (h : isa_Encode.j31 K w f7 i0 i1 i2 i3 i4 i5 i6 i7 r0 r1 r2 r3 r4 r5 r6 σ) : isa_Encode.S31 K w f7 i0 i1 i2 i3 i4 i5 i6 i7 r0 r1 r2 r3 r4 r5 r6 σ := by
  rw [← isa_Encode.j31_eq] at h
  exact seg_snd Pr_mixed (hsel_sound fun x hx => by
    cases hx) h
noncomputable def isa_Encode.h29 (K : Value → Store → Prop) : Hand := hsel [(31, isa_Encode.d31 (isa_Encode.j31 K ))]
theorem isa_Encode.j29_eq (K : Value → Store → Prop) (w f7 i0 i1 i2 i3 i4 i5 : Int) (i6 i7 : Bool) (r0 : Int) (r1 : ByteArray) (r2 r3 r4 r5 r6 : Int) (σ : Store) : (seg Pr isa_Encode.H F.isa_Encode isa_Encode.T (isa_Encode.h29 K ) K (isa_Encode.T 29) (Ev.cutE isa_Encode.H 29 [.v (.int .u32 w), .v (.int .u32 f7)] [[.int .i64 i0, .int .i64 i1, .int .i64 i2, .int .i64 i3, .int .i64 i4, .int .u32 i5, .bool i6, .bool i7], [.int .i64 r0, .string r1, .int .i64 r2, .int .u32 r3, .int .u32 r4, .int .u32 r5, .int .i64 r6]]) σ) = isa_Encode.j29 K w f7 i0 i1 i2 i3 i4 i5 i6 i7 r0 r1 r2 r3 r4 r5 r6 σ := by kernel_rfl
theorem isa_Encode.j29_ok (K : Value → Store → Prop) (w f7 i0 i1 i2 i3 i4 i5 : Int) (i6 i7 : Bool) (r0 : Int) (r1 : ByteArray) (r2 r3 r4 r5 r6 : Int) (σ : Store) (h : isa_Encode.j29 K w f7 i0 i1 i2 i3 i4 i5 i6 i7 r0 r1 r2 r3 r4 r5 r6 σ) : isa_Encode.S29 K w f7 i0 i1 i2 i3 i4 i5 i6 i7 r0 r1 r2 r3 r4 r5 r6 σ := by
  rw [← isa_Encode.j29_eq] at h
  exact seg_snd Pr_mixed (hsel_sound fun x hx => by
    simp only [List.mem_cons, List.not_mem_nil, or_false] at hx
    subst hx
    exact isa_Encode.d31_ok fun _ _ _ _ _ _ _ _ _ _ _ _ _ _ _ _ _ _ h => isa_Encode.j31_ok K _ _ _ _ _ _ _ _ _ _ _ _ _ _ _ _ _ _ h) h
noncomputable def isa_Encode.h22 (K : Value → Store → Prop) : Hand := hsel [(29, isa_Encode.d29 (isa_Encode.j29 K )), (31, isa_Encode.d31 (isa_Encode.j31 K ))]
theorem isa_Encode.j22_eq (K : Value → Store → Prop) (w : Int) (a : Bool) (i0 i1 i2 i3 i4 i5 : Int) (i6 i7 : Bool) (r0 : Int) (r1 : ByteArray) (r2 r3 r4 r5 r6 : Int) (σ : Store) : (seg Pr isa_Encode.H F.isa_Encode isa_Encode.T (isa_Encode.h22 K ) K (isa_Encode.T 22) (Ev.cutE isa_Encode.H 22 [.v (.int .u32 w), .v (.bool a)] [[.int .i64 i0, .int .i64 i1, .int .i64 i2, .int .i64 i3, .int .i64 i4, .int .u32 i5, .bool i6, .bool i7], [.int .i64 r0, .string r1, .int .i64 r2, .int .u32 r3, .int .u32 r4, .int .u32 r5, .int .i64 r6]]) σ) = isa_Encode.j22 K w a i0 i1 i2 i3 i4 i5 i6 i7 r0 r1 r2 r3 r4 r5 r6 σ := by kernel_rfl
theorem isa_Encode.j22_ok (K : Value → Store → Prop) (w : Int) (a : Bool) (i0 i1 i2 i3 i4 i5 : Int) (i6 i7 : Bool) (r0 : Int) (r1 : ByteArray) (r2 r3 r4 r5 r6 : Int) (σ : Store) (h : isa_Encode.j22 K w a i0 i1 i2 i3 i4 i5 i6 i7 r0 r1 r2 r3 r4 r5 r6 σ) : isa_Encode.S22 K w a i0 i1 i2 i3 i4 i5 i6 i7 r0 r1 r2 r3 r4 r5 r6 σ := by
  rw [← isa_Encode.j22_eq] at h
  exact seg_snd Pr_mixed (hsel_sound fun x hx => by
    simp only [List.mem_cons, List.not_mem_nil, or_false] at hx
    rcases hx with rfl | rfl
    · exact isa_Encode.d29_ok fun _ _ _ _ _ _ _ _ _ _ _ _ _ _ _ _ _ _ h => isa_Encode.j29_ok K _ _ _ _ _ _ _ _ _ _ _ _ _ _ _ _ _ _ h
    · exact isa_Encode.d31_ok fun _ _ _ _ _ _ _ _ _ _ _ _ _ _ _ _ _ _ h => isa_Encode.j31_ok K _ _ _ _ _ _ _ _ _ _ _ _ _ _ _ _ _ _ h) h
noncomputable def isa_Encode.h21 (K : Value → Store → Prop) : Hand := hsel [(22, isa_Encode.d22 (isa_Encode.j22 K ))]
theorem isa_Encode.j21_eq (K : Value → Store → Prop) (w : Int) (a t142 : Bool) (i0 i1 i2 i3 i4 i5 : Int) (i6 i7 : Bool) (r0 : Int) (r1 : ByteArray) (r2 r3 r4 r5 r6 : Int) (σ : Store) : (seg Pr isa_Encode.H F.isa_Encode isa_Encode.T (isa_Encode.h21 K ) K (isa_Encode.T 21) (Ev.cutE isa_Encode.H 21 [.v (.int .u32 w), .v (.bool a), .v (.bool t142)] [[.int .i64 i0, .int .i64 i1, .int .i64 i2, .int .i64 i3, .int .i64 i4, .int .u32 i5, .bool i6, .bool i7], [.int .i64 r0, .string r1, .int .i64 r2, .int .u32 r3, .int .u32 r4, .int .u32 r5, .int .i64 r6]]) σ) = isa_Encode.j21 K w a t142 i0 i1 i2 i3 i4 i5 i6 i7 r0 r1 r2 r3 r4 r5 r6 σ := by kernel_rfl
theorem isa_Encode.j21_ok (K : Value → Store → Prop) (w : Int) (a t142 : Bool) (i0 i1 i2 i3 i4 i5 : Int) (i6 i7 : Bool) (r0 : Int) (r1 : ByteArray) (r2 r3 r4 r5 r6 : Int) (σ : Store) (h : isa_Encode.j21 K w a t142 i0 i1 i2 i3 i4 i5 i6 i7 r0 r1 r2 r3 r4 r5 r6 σ) : isa_Encode.S21 K w a t142 i0 i1 i2 i3 i4 i5 i6 i7 r0 r1 r2 r3 r4 r5 r6 σ := by
  rw [← isa_Encode.j21_eq] at h
  exact seg_snd Pr_mixed (hsel_sound fun x hx => by
    simp only [List.mem_cons, List.not_mem_nil, or_false] at hx
    subst hx
    exact isa_Encode.d22_ok fun _ _ _ _ _ _ _ _ _ _ _ _ _ _ _ _ _ _ h => isa_Encode.j22_ok K _ _ _ _ _ _ _ _ _ _ _ _ _ _ _ _ _ _ h) h
noncomputable def isa_Encode.h20 (K : Value → Store → Prop) : Hand := hsel [(21, isa_Encode.d21 (isa_Encode.j21 K ))]
theorem isa_Encode.j20_eq (K : Value → Store → Prop) (rd rs1 rs2 imm : Bool) (w : Int) (c a : Bool) (i0 i1 i2 i3 i4 i5 : Int) (i6 i7 : Bool) (r0 : Int) (r1 : ByteArray) (r2 r3 r4 r5 r6 : Int) (σ : Store) : (seg Pr isa_Encode.H F.isa_Encode isa_Encode.T (isa_Encode.h20 K ) K (isa_Encode.T 20) (Ev.cutE isa_Encode.H 20 [.v (.bool rd), .v (.bool rs1), .v (.bool rs2), .v (.bool imm), .v (.int .u32 w), .v (.bool c), .v (.bool a)] [[.int .i64 i0, .int .i64 i1, .int .i64 i2, .int .i64 i3, .int .i64 i4, .int .u32 i5, .bool i6, .bool i7], [.int .i64 r0, .string r1, .int .i64 r2, .int .u32 r3, .int .u32 r4, .int .u32 r5, .int .i64 r6]]) σ) = isa_Encode.j20 K rd rs1 rs2 imm w c a i0 i1 i2 i3 i4 i5 i6 i7 r0 r1 r2 r3 r4 r5 r6 σ := by kernel_rfl
theorem isa_Encode.j20_ok (K : Value → Store → Prop) (rd rs1 rs2 imm : Bool) (w : Int) (c a : Bool) (i0 i1 i2 i3 i4 i5 : Int) (i6 i7 : Bool) (r0 : Int) (r1 : ByteArray) (r2 r3 r4 r5 r6 : Int) (σ : Store) (h : isa_Encode.j20 K rd rs1 rs2 imm w c a i0 i1 i2 i3 i4 i5 i6 i7 r0 r1 r2 r3 r4 r5 r6 σ) : isa_Encode.S20 K rd rs1 rs2 imm w c a i0 i1 i2 i3 i4 i5 i6 i7 r0 r1 r2 r3 r4 r5 r6 σ := by
  rw [← isa_Encode.j20_eq] at h
  exact seg_snd Pr_mixed (hsel_sound fun x hx => by
    simp only [List.mem_cons, List.not_mem_nil, or_false] at hx
    subst hx
    exact isa_Encode.d21_ok fun _ _ _ _ _ _ _ _ _ _ _ _ _ _ _ _ _ _ _ h => isa_Encode.j21_ok K _ _ _ _ _ _ _ _ _ _ _ _ _ _ _ _ _ _ _ h) h
noncomputable def isa_Encode.h19 (K : Value → Store → Prop) : Hand := hsel [(20, isa_Encode.d20 (isa_Encode.j20 K ))]
theorem isa_Encode.j19_eq (K : Value → Store → Prop) (rd rs1 rs2 imm : Bool) (w : Int) (c : Bool) (i0 i1 i2 i3 i4 i5 : Int) (i6 i7 : Bool) (r0 : Int) (r1 : ByteArray) (r2 r3 r4 r5 r6 : Int) (σ : Store) : (seg Pr isa_Encode.H F.isa_Encode isa_Encode.T (isa_Encode.h19 K ) K (isa_Encode.T 19) (Ev.cutE isa_Encode.H 19 [.v (.bool rd), .v (.bool rs1), .v (.bool rs2), .v (.bool imm), .v (.int .u32 w), .v (.bool c)] [[.int .i64 i0, .int .i64 i1, .int .i64 i2, .int .i64 i3, .int .i64 i4, .int .u32 i5, .bool i6, .bool i7], [.int .i64 r0, .string r1, .int .i64 r2, .int .u32 r3, .int .u32 r4, .int .u32 r5, .int .i64 r6]]) σ) = isa_Encode.j19 K rd rs1 rs2 imm w c i0 i1 i2 i3 i4 i5 i6 i7 r0 r1 r2 r3 r4 r5 r6 σ := by kernel_rfl
theorem isa_Encode.j19_ok (K : Value → Store → Prop) (rd rs1 rs2 imm : Bool) (w : Int) (c : Bool) (i0 i1 i2 i3 i4 i5 : Int) (i6 i7 : Bool) (r0 : Int) (r1 : ByteArray) (r2 r3 r4 r5 r6 : Int) (σ : Store) (h : isa_Encode.j19 K rd rs1 rs2 imm w c i0 i1 i2 i3 i4 i5 i6 i7 r0 r1 r2 r3 r4 r5 r6 σ) : isa_Encode.S19 K rd rs1 rs2 imm w c i0 i1 i2 i3 i4 i5 i6 i7 r0 r1 r2 r3 r4 r5 r6 σ := by
  rw [← isa_Encode.j19_eq] at h
  exact seg_snd Pr_mixed (hsel_sound fun x hx => by
    simp only [List.mem_cons, List.not_mem_nil, or_false] at hx
    subst hx
    exact isa_Encode.d20_ok fun _ _ _ _ _ _ _ _ _ _ _ _ _ _ _ _ _ _ _ _ _ _ _ h => isa_Encode.j20_ok K _ _ _ _ _ _ _ _ _ _ _ _ _ _ _ _ _ _ _ _ _ _ _ h) h
noncomputable def isa_Encode.h18 (K : Value → Store → Prop) : Hand := hsel [(19, isa_Encode.d19 (isa_Encode.j19 K ))]
theorem isa_Encode.j18_eq (K : Value → Store → Prop) (rd rs1 rs2 imm : Bool) (w i0 i1 i2 i3 i4 i5 : Int) (i6 i7 : Bool) (r0 : Int) (r1 : ByteArray) (r2 r3 r4 r5 r6 : Int) (σ : Store) : (seg Pr isa_Encode.H F.isa_Encode isa_Encode.T (isa_Encode.h18 K ) K (isa_Encode.T 18) (Ev.cutE isa_Encode.H 18 [.v (.bool rd), .v (.bool rs1), .v (.bool rs2), .v (.bool imm), .v (.int .u32 w)] [[.int .i64 i0, .int .i64 i1, .int .i64 i2, .int .i64 i3, .int .i64 i4, .int .u32 i5, .bool i6, .bool i7], [.int .i64 r0, .string r1, .int .i64 r2, .int .u32 r3, .int .u32 r4, .int .u32 r5, .int .i64 r6]]) σ) = isa_Encode.j18 K rd rs1 rs2 imm w i0 i1 i2 i3 i4 i5 i6 i7 r0 r1 r2 r3 r4 r5 r6 σ := by kernel_rfl
theorem isa_Encode.j18_ok (K : Value → Store → Prop) (rd rs1 rs2 imm : Bool) (w i0 i1 i2 i3 i4 i5 : Int) (i6 i7 : Bool) (r0 : Int) (r1 : ByteArray) (r2 r3 r4 r5 r6 : Int) (σ : Store) (h : isa_Encode.j18 K rd rs1 rs2 imm w i0 i1 i2 i3 i4 i5 i6 i7 r0 r1 r2 r3 r4 r5 r6 σ) : isa_Encode.S18 K rd rs1 rs2 imm w i0 i1 i2 i3 i4 i5 i6 i7 r0 r1 r2 r3 r4 r5 r6 σ := by
  rw [← isa_Encode.j18_eq] at h
  exact seg_snd Pr_mixed (hsel_sound fun x hx => by
    simp only [List.mem_cons, List.not_mem_nil, or_false] at hx
    subst hx
    exact isa_Encode.d19_ok fun _ _ _ _ _ _ _ _ _ _ _ _ _ _ _ _ _ _ _ _ _ _ h => isa_Encode.j19_ok K _ _ _ _ _ _ _ _ _ _ _ _ _ _ _ _ _ _ _ _ _ _ h) h
noncomputable def isa_Encode.h12 (K : Value → Store → Prop) : Hand := hsel [(18, isa_Encode.d18 (isa_Encode.j18 K ))]
theorem isa_Encode.j12_eq (K : Value → Store → Prop) (i0 i1 i2 i3 i4 i5 : Int) (i6 i7 : Bool) (r0 : Int) (r1 : ByteArray) (r2 r3 r4 r5 r6 : Int) (σ : Store) : (seg Pr isa_Encode.H F.isa_Encode isa_Encode.T (isa_Encode.h12 K ) K (isa_Encode.T 12) (Ev.cutE isa_Encode.H 12 [] [[.int .i64 i0, .int .i64 i1, .int .i64 i2, .int .i64 i3, .int .i64 i4, .int .u32 i5, .bool i6, .bool i7], [.int .i64 r0, .string r1, .int .i64 r2, .int .u32 r3, .int .u32 r4, .int .u32 r5, .int .i64 r6]]) σ) = isa_Encode.j12 K i0 i1 i2 i3 i4 i5 i6 i7 r0 r1 r2 r3 r4 r5 r6 σ := by kernel_rfl
theorem isa_Encode.j12_ok (K : Value → Store → Prop) (i0 i1 i2 i3 i4 i5 : Int) (i6 i7 : Bool) (r0 : Int) (r1 : ByteArray) (r2 r3 r4 r5 r6 : Int) (σ : Store) (h : isa_Encode.j12 K i0 i1 i2 i3 i4 i5 i6 i7 r0 r1 r2 r3 r4 r5 r6 σ) : isa_Encode.S12 K i0 i1 i2 i3 i4 i5 i6 i7 r0 r1 r2 r3 r4 r5 r6 σ := by
  rw [← isa_Encode.j12_eq] at h
  exact seg_snd Pr_mixed (hsel_sound fun x hx => by
    simp only [List.mem_cons, List.not_mem_nil, or_false] at hx
    subst hx
    exact isa_Encode.d18_ok fun _ _ _ _ _ _ _ _ _ _ _ _ _ _ _ _ _ _ _ _ _ h => isa_Encode.j18_ok K _ _ _ _ _ _ _ _ _ _ _ _ _ _ _ _ _ _ _ _ _ h) h
noncomputable def isa_Encode.h11 (K : Value → Store → Prop) : Hand := hsel [(12, isa_Encode.d12 (isa_Encode.j12 K ))]
theorem isa_Encode.j11_eq (K : Value → Store → Prop) (t52 : Bool) (i0 i1 i2 i3 i4 i5 : Int) (i6 i7 : Bool) (r0 : Int) (r1 : ByteArray) (r2 r3 r4 r5 r6 : Int) (σ : Store) : (seg Pr isa_Encode.H F.isa_Encode isa_Encode.T (isa_Encode.h11 K ) K (isa_Encode.T 11) (Ev.cutE isa_Encode.H 11 [.v (.bool t52)] [[.int .i64 i0, .int .i64 i1, .int .i64 i2, .int .i64 i3, .int .i64 i4, .int .u32 i5, .bool i6, .bool i7], [.int .i64 r0, .string r1, .int .i64 r2, .int .u32 r3, .int .u32 r4, .int .u32 r5, .int .i64 r6]]) σ) = isa_Encode.j11 K t52 i0 i1 i2 i3 i4 i5 i6 i7 r0 r1 r2 r3 r4 r5 r6 σ := by kernel_rfl
theorem isa_Encode.j11_ok (K : Value → Store → Prop) (t52 : Bool) (i0 i1 i2 i3 i4 i5 : Int) (i6 i7 : Bool) (r0 : Int) (r1 : ByteArray) (r2 r3 r4 r5 r6 : Int) (σ : Store) (h : isa_Encode.j11 K t52 i0 i1 i2 i3 i4 i5 i6 i7 r0 r1 r2 r3 r4 r5 r6 σ) : isa_Encode.S11 K t52 i0 i1 i2 i3 i4 i5 i6 i7 r0 r1 r2 r3 r4 r5 r6 σ := by
  rw [← isa_Encode.j11_eq] at h
  exact seg_snd Pr_mixed (hsel_sound fun x hx => by
    simp only [List.mem_cons, List.not_mem_nil, or_false] at hx
    subst hx
    exact isa_Encode.d12_ok fun _ _ _ _ _ _ _ _ _ _ _ _ _ _ _ _ h => isa_Encode.j12_ok K _ _ _ _ _ _ _ _ _ _ _ _ _ _ _ _ h) h
noncomputable def isa_Encode.h10 (K : Value → Store → Prop) : Hand := hsel [(11, isa_Encode.d11 (isa_Encode.j11 K ))]
theorem isa_Encode.j10_eq (K : Value → Store → Prop) (i0 i1 i2 i3 i4 i5 : Int) (i6 i7 : Bool) (r0 : Int) (r1 : ByteArray) (r2 r3 r4 r5 r6 : Int) (σ : Store) : (seg Pr isa_Encode.H F.isa_Encode isa_Encode.T (isa_Encode.h10 K ) K (isa_Encode.T 10) (Ev.cutE isa_Encode.H 10 [] [[.int .i64 i0, .int .i64 i1, .int .i64 i2, .int .i64 i3, .int .i64 i4, .int .u32 i5, .bool i6, .bool i7], [.int .i64 r0, .string r1, .int .i64 r2, .int .u32 r3, .int .u32 r4, .int .u32 r5, .int .i64 r6]]) σ) = isa_Encode.j10 K i0 i1 i2 i3 i4 i5 i6 i7 r0 r1 r2 r3 r4 r5 r6 σ := by kernel_rfl
theorem isa_Encode.j10_ok (K : Value → Store → Prop) (i0 i1 i2 i3 i4 i5 : Int) (i6 i7 : Bool) (r0 : Int) (r1 : ByteArray) (r2 r3 r4 r5 r6 : Int) (σ : Store) (h : isa_Encode.j10 K i0 i1 i2 i3 i4 i5 i6 i7 r0 r1 r2 r3 r4 r5 r6 σ) : isa_Encode.S10 K i0 i1 i2 i3 i4 i5 i6 i7 r0 r1 r2 r3 r4 r5 r6 σ := by
  rw [← isa_Encode.j10_eq] at h
  exact seg_snd Pr_mixed (hsel_sound fun x hx => by
    simp only [List.mem_cons, List.not_mem_nil, or_false] at hx
    subst hx
    exact isa_Encode.d11_ok fun _ _ _ _ _ _ _ _ _ _ _ _ _ _ _ _ _ h => isa_Encode.j11_ok K _ _ _ _ _ _ _ _ _ _ _ _ _ _ _ _ _ h) h
noncomputable def isa_Encode.h5 (K : Value → Store → Prop) (rr5 : isa_Encode.R5) : Hand := hsel [(8, isa_Encode.d8 (isa_Encode.j8 K rr5)), (10, isa_Encode.d10 (isa_Encode.j10 K )), (5, isa_Encode.d5 rr5)]
theorem isa_Encode.b5_eq (K : Value → Store → Prop) (rr5 : isa_Encode.R5) (t31A : Option Addr) (t31N t31C : Nat) (t32 t33 i0 i1 i2 i3 i4 i5 : Int) (i6 i7 : Bool) (r0 : Int) (r1 : ByteArray) (r2 r3 r4 r5 r6 : Int) (σ : Store) : (seg Pr isa_Encode.H F.isa_Encode isa_Encode.T (isa_Encode.h5 K rr5) K (isa_Encode.T 5) (Ev.cutE isa_Encode.H 5 [.v (.slice t31A t31N t31C), .v (.int .i64 t32), .v (.int .i64 t33)] [[.int .i64 i0, .int .i64 i1, .int .i64 i2, .int .i64 i3, .int .i64 i4, .int .u32 i5, .bool i6, .bool i7], [.int .i64 r0, .string r1, .int .i64 r2, .int .u32 r3, .int .u32 r4, .int .u32 r5, .int .i64 r6]]) σ) = isa_Encode.b5 K rr5 t31A t31N t31C t32 t33 i0 i1 i2 i3 i4 i5 i6 i7 r0 r1 r2 r3 r4 r5 r6 σ := by kernel_rfl
theorem isa_Encode.b5_ok (K : Value → Store → Prop) (rr5 : isa_Encode.R5) (hh5 : ∀ t31A t31N t31C t32 t33 i0 i1 i2 i3 i4 i5 i6 i7 r0 r1 r2 r3 r4 r5 r6 σ, rr5 t31A t31N t31C t32 t33 i0 i1 i2 i3 i4 i5 i6 i7 r0 r1 r2 r3 r4 r5 r6 σ → isa_Encode.S5 K t31A t31N t31C t32 t33 i0 i1 i2 i3 i4 i5 i6 i7 r0 r1 r2 r3 r4 r5 r6 σ) (t31A : Option Addr) (t31N t31C : Nat) (t32 t33 i0 i1 i2 i3 i4 i5 : Int) (i6 i7 : Bool) (r0 : Int) (r1 : ByteArray) (r2 r3 r4 r5 r6 : Int) (σ : Store) (h : isa_Encode.b5 K rr5 t31A t31N t31C t32 t33 i0 i1 i2 i3 i4 i5 i6 i7 r0 r1 r2 r3 r4 r5 r6 σ) : isa_Encode.S5 K t31A t31N t31C t32 t33 i0 i1 i2 i3 i4 i5 i6 i7 r0 r1 r2 r3 r4 r5 r6 σ := by
  rw [← isa_Encode.b5_eq] at h
  exact seg_snd Pr_mixed (hsel_sound fun x hx => by
    simp only [List.mem_cons, List.not_mem_nil, or_false] at hx
    rcases hx with rfl | rfl | rfl
    · exact isa_Encode.d8_ok fun _ _ _ _ _ _ _ _ _ _ _ _ _ _ _ _ _ _ _ _ _ _ h => isa_Encode.j8_ok K rr5 hh5 _ _ _ _ _ _ _ _ _ _ _ _ _ _ _ _ _ _ _ _ _ _ h
    · exact isa_Encode.d10_ok fun _ _ _ _ _ _ _ _ _ _ _ _ _ _ _ _ h => isa_Encode.j10_ok K _ _ _ _ _ _ _ _ _ _ _ _ _ _ _ _ h
    · exact isa_Encode.d5_ok hh5) h
theorem isa_Encode.l5_ok (K : Value → Store → Prop) : ∀ (n : Nat) (t31A : Option Addr) (t31N t31C : Nat) (t32 t33 i0 i1 i2 i3 i4 i5 : Int) (i6 i7 : Bool) (r0 : Int) (r1 : ByteArray) (r2 r3 r4 r5 r6 : Int) (σ : Store), isa_Encode.l5 K n t31A t31N t31C t32 t33 i0 i1 i2 i3 i4 i5 i6 i7 r0 r1 r2 r3 r4 r5 r6 σ → isa_Encode.S5 K t31A t31N t31C t32 t33 i0 i1 i2 i3 i4 i5 i6 i7 r0 r1 r2 r3 r4 r5 r6 σ
  | 0, _, _, _, _, _, _, _, _, _, _, _, _, _, _, _, _, _, _, _, _, _, h => h.elim
  | n + 1, _, _, _, _, _, _, _, _, _, _, _, _, _, _, _, _, _, _, _, _, _, h => isa_Encode.b5_ok K (isa_Encode.l5 K n) (isa_Encode.l5_ok K n) _ _ _ _ _ _ _ _ _ _ _ _ _ _ _ _ _ _ _ _ _ h
noncomputable def isa_Encode.h (K : Value → Store → Prop) : Hand := hsel [(5, isa_Encode.d5 fun t31A t31N t31C t32 t33 i0 i1 i2 i3 i4 i5 i6 i7 r0 r1 r2 r3 r4 r5 r6 σ => ∃ n : Nat, isa_Encode.l5 K n t31A t31N t31C t32 t33 i0 i1 i2 i3 i4 i5 i6 i7 r0 r1 r2 r3 r4 r5 r6 σ)]
theorem isa_Encode.m_eq (K : Value → Store → Prop) (i0 i1 i2 i3 i4 i5 : Int) (i6 i7 : Bool) (σ : Store) : (segF Pr isa_Encode.H F.isa_Encode isa_Encode.T (isa_Encode.h K) K [.agg #[.int .i64 i0, .int .i64 i1, .int .i64 i2, .int .i64 i3, .int .i64 i4, .int .u32 i5, .bool i6, .bool i7]] σ) = isa_Encode.m K i0 i1 i2 i3 i4 i5 i6 i7 σ := by kernel_rfl
theorem isa_Encode.ok {K : Value → Store → Prop} {i0 i1 i2 i3 i4 i5 : Int} {i6 i7 : Bool} {σ : Store} (h : isa_Encode.m K i0 i1 i2 i3 i4 i5 i6 i7 σ) : Spec Pr F.isa_Encode [.agg #[.int .i64 i0, .int .i64 i1, .int .i64 i2, .int .i64 i3, .int .i64 i4, .int .u32 i5, .bool i6, .bool i7]] σ K := by
  rw [← isa_Encode.m_eq] at h
  exact segF_spec Pr_mixed (hsel_sound fun x hx => by
    simp only [List.mem_cons, List.not_mem_nil, or_false] at hx
    subst hx
    exact isa_Encode.d5_ok fun _ _ _ _ _ _ _ _ _ _ _ _ _ _ _ _ _ _ _ _ _ ⟨n, h⟩ => isa_Encode.l5_ok K n _ _ _ _ _ _ _ _ _ _ _ _ _ _ _ _ _ _ _ _ _ h) h

/-! ### corral/isa.Uses -/
def isa_Uses.H : Hints := { esc := [], cuts := [] }
noncomputable def isa_Uses.T : Nat → List Item := stk Pr F.isa_Uses []
def isa_Uses.m (K : Value → Store → Prop) (op : Int) (σ : Store) : Prop :=
  Spec Pr F.isa_find [.int .i64 op] σ fun v σ_ => ∃ t10a0 : Int, ∃ t10a1 : ByteArray, ∃ t10a2 : Int, ∃ t10a3 : Int, ∃ t10a4 : Int, ∃ t10a5 : Int, ∃ t10a6 : Int, ∃ t10b : Bool, v = .tuple #[.agg #[.int .i64 t10a0, .string t10a1, .int .i64 t10a2, .int .u32 t10a3, .int .u32 t10a4, .int .u32 t10a5, .int .i64 t10a6], .bool t10b] ∧
  cond (!t10b)
  (K (.tuple #[.bool false, .bool false, .bool false, .bool false]) σ_)
  (Spec Pr F.isa_row_uses [.agg #[.int .i64 t10a0, .string t10a1, .int .i64 t10a2, .int .u32 t10a3, .int .u32 t10a4, .int .u32 t10a5, .int .i64 t10a6]] σ_ fun v1 σ_1 => ∃ t16a : Bool, ∃ t16b : Bool, ∃ t16c : Bool, ∃ t16d : Bool, v1 = .tuple #[.bool t16a, .bool t16b, .bool t16c, .bool t16d] ∧
    K (.tuple #[.bool t16a, .bool t16b, .bool t16c, .bool t16d]) σ_1)
noncomputable def isa_Uses.h (K : Value → Store → Prop) : Hand := hsel []
theorem isa_Uses.m_eq (K : Value → Store → Prop) (op : Int) (σ : Store) : (segF Pr isa_Uses.H F.isa_Uses isa_Uses.T (isa_Uses.h K) K [.int .i64 op] σ) = isa_Uses.m K op σ := by kernel_rfl
theorem isa_Uses.ok {K : Value → Store → Prop} {op : Int} {σ : Store} (h : isa_Uses.m K op σ) : Spec Pr F.isa_Uses [.int .i64 op] σ K := by
  rw [← isa_Uses.m_eq] at h
  exact segF_spec Pr_mixed (hsel_sound fun x hx => by
    cases hx) h

/-! ### corral/isa.Name -/
def isa_Name.H : Hints := { esc := [], cuts := [] }
noncomputable def isa_Name.T : Nat → List Item := stk Pr F.isa_Name []
def isa_Name.m (K : Value → Store → Prop) (op : Int) (σ : Store) : Prop :=
  Spec Pr F.isa_find [.int .i64 op] σ fun v σ_ => ∃ t7a0 : Int, ∃ t7a1 : ByteArray, ∃ t7a2 : Int, ∃ t7a3 : Int, ∃ t7a4 : Int, ∃ t7a5 : Int, ∃ t7a6 : Int, ∃ t7b : Bool, v = .tuple #[.agg #[.int .i64 t7a0, .string t7a1, .int .i64 t7a2, .int .u32 t7a3, .int .u32 t7a4, .int .u32 t7a5, .int .i64 t7a6], .bool t7b] ∧
  K (.string t7a1) σ_
noncomputable def isa_Name.h (K : Value → Store → Prop) : Hand := hsel []
theorem isa_Name.m_eq (K : Value → Store → Prop) (op : Int) (σ : Store) : (segF Pr isa_Name.H F.isa_Name isa_Name.T (isa_Name.h K) K [.int .i64 op] σ) = isa_Name.m K op σ := by kernel_rfl
theorem isa_Name.ok {K : Value → Store → Prop} {op : Int} {σ : Store} (h : isa_Name.m K op σ) : Spec Pr F.isa_Name [.int .i64 op] σ K := by
  rw [← isa_Name.m_eq] at h
  exact segF_spec Pr_mixed (hsel_sound fun x hx => by
    cases hx) h

/-! ### corral/isa.Kind -/
def isa_Kind.H : Hints := { esc := [], cuts := [] }
noncomputable def isa_Kind.T : Nat → List Item := stk Pr F.isa_Kind []
def isa_Kind.m (K : Value → Store → Prop) (op : Int) (σ : Store) : Prop :=
  Spec Pr F.isa_find [.int .i64 op] σ fun v σ_ => ∃ t7a0 : Int, ∃ t7a1 : ByteArray, ∃ t7a2 : Int, ∃ t7a3 : Int, ∃ t7a4 : Int, ∃ t7a5 : Int, ∃ t7a6 : Int, ∃ t7b : Bool, v = .tuple #[.agg #[.int .i64 t7a0, .string t7a1, .int .i64 t7a2, .int .u32 t7a3, .int .u32 t7a4, .int .u32 t7a5, .int .i64 t7a6], .bool t7b] ∧
  K (.int .i64 t7a6) σ_
noncomputable def isa_Kind.h (K : Value → Store → Prop) : Hand := hsel []
theorem isa_Kind.m_eq (K : Value → Store → Prop) (op : Int) (σ : Store) : (segF Pr isa_Kind.H F.isa_Kind isa_Kind.T (isa_Kind.h K) K [.int .i64 op] σ) = isa_Kind.m K op σ := by kernel_rfl
theorem isa_Kind.ok {K : Value → Store → Prop} {op : Int} {σ : Store} (h : isa_Kind.m K op σ) : Spec Pr F.isa_Kind [.int .i64 op] σ K := by
  rw [← isa_Kind.m_eq] at h
  exact segF_spec Pr_mixed (hsel_sound fun x hx => by
    cases hx) h

/-! ### corral/isa.Op -/
def isa_Op.H : Hints := { esc := [], cuts := [(2, [0, 5, 6, 7], []), (7, [], [])] }
noncomputable def isa_Op.T : Nat → List Item := stk Pr F.isa_Op [(2, [1, 0, 1, 0, 0]), (7, [1, 1])]
abbrev isa_Op.R7 : Type := Store → Prop
abbrev isa_Op.R2 : Type := ByteArray → Option Addr → Nat → Nat → Int → Int → Store → Prop
def isa_Op.d7 (g : isa_Op.R7) : List AV → List (List Value) → Store → Prop
  | [], [], σ => g σ
  | _, _, _ => False
def isa_Op.S7 (K : Value → Store → Prop) (σ : Store) : Prop := SndF Pr F.isa_Op isa_Op.H isa_Op.T K 7 [] [] σ
def isa_Op.j7 (K : Value → Store → Prop) (σ : Store) : Prop :=
  K (.int .i64 0) σ
def isa_Op.d2 (g : isa_Op.R2) : List AV → List (List Value) → Store → Prop
  | [.v (.string name), .v (.slice t5A t5N t5C), .v (.int .i64 t6), .v (.int .i64 t7)], [], σ => g name t5A t5N t5C t6 t7 σ
  | _, _, _ => False
def isa_Op.S2 (K : Value → Store → Prop) (name : ByteArray) (t5A : Option Addr) (t5N t5C : Nat) (t6 t7 : Int) (σ : Store) : Prop := SndF Pr F.isa_Op isa_Op.H isa_Op.T K 2 [.v (.string name), .v (.slice t5A t5N t5C), .v (.int .i64 t6), .v (.int .i64 t7)] [] σ
def isa_Op.b2 (K : Value → Store → Prop) (rr2 : isa_Op.R2) (name : ByteArray) (t5A : Option Addr) (t5N t5C : Nat) (t6 t7 : Int) (σ : Store) : Prop :=
  cond (decide (t7 < t6))
  (Req (decide (0 ≤ t7) && decide (t7 < ((t5N : Nat) : Int))) (
      PtrNN t5A fun t9B t9O =>
      ∃ t100 : Int, ∃ t101 : ByteArray, ∃ t102 : Int, ∃ t103 : Int, ∃ t104 : Int, ∃ t105 : Int, ∃ t106 : Int, cellsAt σ t9B (t9O + t7.toNat * 7) 7 = some [.int .i64 t100, .string t101, .int .i64 t102, .int .u32 t103, .int .u32 t104, .int .u32 t105, .int .i64 t106] ∧
      cond (t101.toList == name.toList)
      (K (.int .i64 t100) σ)
      (Hop (isa_Op.T 2) (isa_Op.T 2) (rr2 name t5A t5N t5C t6 (IntKind.wrap .i64 (t7 + 1)) σ))))
  (Hop (isa_Op.T 7) (isa_Op.T 7) (isa_Op.j7 K σ))
def isa_Op.l2 (K : Value → Store → Prop) : Nat → isa_Op.R2
  | 0, _, _, _, _, _, _, _ => False
  | n + 1, name, t5A, t5N, t5C, t6, t7, σ => isa_Op.b2 K (isa_Op.l2 K n) name t5A t5N t5C t6 t7 σ
def isa_Op.m (K : Value → Store → Prop) (name : ByteArray) (σ : Store) : Prop :=
  Spec Pr F.isa_rows [] σ fun v σ_ => ∃ t5A : Option Addr, ∃ t5N : Nat, ∃ t5C : Nat, v = .slice t5A t5N t5C ∧
  Hop (isa_Op.T 2) (isa_Op.T 2) (∃ n : Nat, isa_Op.l2 K n name t5A t5N t5C ((t5N : Nat) : Int) 0 σ_)
theorem isa_Op.d7_ok {K : Value → Store → Prop} {g : isa_Op.R7} (hg : ∀ σ, g σ → isa_Op.S7 K σ) (vs : List AV) (bs : List (List Value)) (σ : Store) (h : isa_Op.d7 g vs bs σ) : SndF Pr F.isa_Op isa_Op.H isa_Op.T K 7 vs bs σ := by
  unfold isa_Op.d7 at h
  split at h
  · exact hg _ h
  · exact h.elim
theorem isa_Op.d2_ok {K : Value → Store → Prop} {g : isa_Op.R2} (hg : ∀ name t5A t5N t5C t6 t7 σ, g name t5A t5N t5C t6 t7 σ → isa_Op.S2 K name t5A t5N t5C t6 t7 σ) (vs : List AV) (bs : List (List Value)) (σ : Store) (h : isa_Op.d2 g vs bs σ) : SndF Pr F.isa_Op isa_Op.H isa_Op.T K 2 vs bs σ := by
  unfold isa_Op.d2 at h
  split at h
  · exact hg _ _ _ _ _ _ _ h
  · exact h.elim
noncomputable def isa_Op.h7 (K : Value → Store → Prop) : Hand := hsel []
theorem isa_Op.j7_eq (K : Value → Store → Prop) (σ : Store) : (seg Pr isa_Op.H F.isa_Op isa_Op.T (isa_Op.h7 K ) K (isa_Op.T 7) (Ev.cutE isa_Op.H 7 [] []) σ) = isa_Op.j7 K σ := by kernel_rfl
theorem isa_Op.j7_ok (K : Value → Store → Prop) (σ : Store) (h : isa_Op.j7 K σ) : isa_Op.S7 K σ := by
  rw [← isa_Op.j7_eq] at h
  exact seg_snd Pr_mixed (hsel_sound fun x hx => by
    cases hx) h
noncomputable def isa_Op.h2 (K : Value → Store → Prop) (rr2 : isa_Op.R2) : Hand := hsel [(7, isa_Op.d7 (isa_Op.j7 K )), (2, isa_Op.d2 rr2)]
theorem isa_Op.b2_eq (K : Value → Store → Prop) (rr2 : isa_Op.R2) (name : ByteArray) (t5A : Option Addr) (t5N t5C : Nat) (t6 t7 : Int) (σ : Store) : (seg Pr isa_Op.H F.isa_Op isa_Op.T (isa_Op.h2 K rr2) K (isa_Op.T 2) (Ev.cutE isa_Op.H 2 [.v (.string name), .v (.slice t5A t5N t5C), .v (.int .i64 t6), .v (.int .i64 t7)] []) σ) = isa_Op.b2 K rr2 name t5A t5N t5C t6 t7 σ := by kernel_rfl
theorem isa_Op.b2_ok (K : Value → Store → Prop) (rr2 : isa_Op.R2) (hh2 : ∀ name t5A t5N t5C t6 t7 σ, rr2 name t5A t5N t5C t6 t7 σ → isa_Op.S2 K name t5A t5N t5C t6 t7 σ) (name : ByteArray) (t5A : Option Addr) (t5N t5C : Nat) (t6 t7 : Int) (σ : Store) (h : isa_Op.b2 K rr2 name t5A t5N t5C t6 t7 σ) : isa_Op.S2 K name t5A t5N t5C t6 t7 σ := by
  rw [← isa_Op.b2_eq] at h
  exact seg_snd Pr_mixed (hsel_sound fun x hx => by
    simp only [List.mem_cons, List.not_mem_nil, or_false] at hx
    rcases hx with rfl | rfl
    · exact isa_Op.d7_ok fun _ h => isa_Op.j7_ok K _ h
    · exact isa_Op.d2_ok hh2) h
theorem isa_Op.l2_ok (K : Value → Store → Prop) : ∀ (n : Nat) (name : ByteArray) (t5A : Option Addr) (t5N t5C : Nat) (t6 t7 : Int) (σ : Store), isa_Op.l2 K n name t5A t5N t5C t6 t7 σ → isa_Op.S2 K name t5A t5N t5C t6 t7 σ
  | 0, _, _, _, _, _, _, _, h => h.elim
  | n + 1, _, _, _, _, _, _, _, h => isa_Op.b2_ok K (isa_Op.l2 K n) (isa_Op.l2_ok K n) _ _ _ _ _ _ _ h
noncomputable def isa_Op.h (K : Value → Store → Prop) : Hand := hsel [(2, isa_Op.d2 fun name t5A t5N t5C t6 t7 σ => ∃ n : Nat, isa_Op.l2 K n name t5A t5N t5C t6 t7 σ)]
theorem isa_Op.m_eq (K : Value → Store → Prop) (name : ByteArray) (σ : Store) : (segF Pr isa_Op.H F.isa_Op isa_Op.T (isa_Op.h K) K [.string name] σ) = isa_Op.m K name σ := by kernel_rfl
theorem isa_Op.ok {K : Value → Store → Prop} {name : ByteArray} {σ : Store} (h : isa_Op.m K name σ) : Spec Pr F.isa_Op [.string name] σ K := by
  rw [← isa_Op.m_eq] at h
  exact segF_spec Pr_mixed (hsel_sound fun x hx => by
    simp only [List.mem_cons, List.not_mem_nil, or_false] at hx
    subst hx
    exact isa_Op.d2_ok fun _ _ _ _ _ _ _ ⟨n, h⟩ => isa_Op.l2_ok K n _ _ _ _ _ _ _ h) h

/-! ### slices.Contains[[]int,int] -/
def slices_Contains.H : Hints := { esc := [], cuts := [] }
noncomputable def slices_Contains.T : Nat → List Item := stk Pr F.slices_Contains []
def slices_Contains.m (K : Value → Store → Prop) (sA : Option Addr) (sN sC : Nat) (v : Int) (σ : Store) : Prop :=
  Spec Pr F.slices_Index [.slice sA sN sC, .int .i64 v] σ fun v1 σ_ => ∃ t7 : Int, v1 = .int .i64 t7 ∧
  K (.bool (decide (t7 ≥ 0))) σ_
noncomputable def slices_Contains.h (K : Value → Store → Prop) : Hand := hsel []
theorem slices_Contains.m_eq (K : Value → Store → Prop) (sA : Option Addr) (sN sC : Nat) (v : Int) (σ : Store) : (segF Pr slices_Contains.H F.slices_Contains slices_Contains.T (slices_Contains.h K) K [.slice sA sN sC, .int .i64 v] σ) = slices_Contains.m K sA sN sC v σ := by kernel_rfl
theorem slices_Contains.ok {K : Value → Store → Prop} {sA : Option Addr} {sN sC : Nat} {v : Int} {σ : Store} (h : slices_Contains.m K sA sN sC v σ) : Spec Pr F.slices_Contains [.slice sA sN sC, .int .i64 v] σ K := by
  rw [← slices_Contains.m_eq] at h
  exact segF_spec Pr_mixed (hsel_sound fun x hx => by
    cases hx) h

end Go.Ev
