import Derived.Test.YtohkplmfihhhnaaDoorN
set_option linter.unusedVariables false
set_option maxRecDepth 100000
namespace Go.Ev
open Go
/-! ### slices.Index[[]int,int] -/
def slices_Index.H : Hints := { esc := [], cuts := [(2, [0, 1, 7, 8], []), (7, [], [])] }
noncomputable def slices_Index.T : Nat → List Item := stk Pr F.slices_Index [(2, [1, 0, 1, 0, 0]), (7, [1, 1])]
abbrev slices_Index.R7 : Type := Store → Prop
abbrev slices_Index.R2 : Type := Option Addr → Nat → Nat → Int → Int → Int → Store → Prop
def slices_Index.d7 (g : slices_Index.R7) : List AV → List (List Value) → Store → Prop
  | [], [], σ => g σ
  | _, _, _ => False
def slices_Index.S7 (K : Value → Store → Prop) (σ : Store) : Prop := SndF Pr F.slices_Index slices_Index.H slices_Index.T K 7 [] [] σ
def slices_Index.j7 (K : Value → Store → Prop) (σ : Store) : Prop :=
  K (.int .i64 (-1)) σ
def slices_Index.d2 (g : slices_Index.R2) : List AV → List (List Value) → Store → Prop
  | [.v (.slice sA sN sC), .v (.int .i64 v), .v (.int .i64 t7), .v (.int .i64 t8)], [], σ => g sA sN sC v t7 t8 σ
  | _, _, _ => False
def slices_Index.S2 (K : Value → Store → Prop) (sA : Option Addr) (sN sC : Nat) (v t7 t8 : Int) (σ : Store) : Prop := SndF Pr F.slices_Index slices_Index.H slices_Index.T K 2 [.v (.slice sA sN sC), .v (.int .i64 v), .v (.int .i64 t7), .v (.int .i64 t8)] [] σ
def slices_Index.b2 (K : Value → Store → Prop) (rr2 : slices_Index.R2) (sA : Option Addr) (sN sC : Nat) (v t7 t8 : Int) (σ : Store) : Prop :=
  cond (decide (t8 < t7))
  (Req (decide (0 ≤ t8) && decide (t8 < ((sN : Nat) : Int))) (
      PtrNN sA fun t14B t14O =>
      ∃ t15 : Int, cellAt σ t14B (t14O + t8.toNat * 1) = some (.int .i64 t15) ∧
      cond (v == t15)
      (K (.int .i64 t8) σ)
      (Hop (slices_Index.T 2) (slices_Index.T 2) (rr2 sA sN sC v t7 (IntKind.wrap .i64 (t8 + 1)) σ))))
  (Hop (slices_Index.T 7) (slices_Index.T 7) (slices_Index.j7 K σ))
def slices_Index.l2 (K : Value → Store → Prop) : Nat → slices_Index.R2
  | 0, _, _, _, _, _, _, _ => False
  | n + 1, sA, sN, sC, v, t7, t8, σ => slices_Index.b2 K (slices_Index.l2 K n) sA sN sC v t7 t8 σ
def slices_Index.m (K : Value → Store → Prop) (sA : Option Addr) (sN sC : Nat) (v : Int) (σ : Store) : Prop :=
  Hop (slices_Index.T 2) (slices_Index.T 2) (∃ n : Nat, slices_Index.l2 K n sA sN sC v ((sN : Nat) : Int) 0 σ)
theorem slices_Index.d7_ok {K : Value → Store → Prop} {g : slices_Index.R7} (hg : ∀ σ, g σ → slices_Index.S7 K σ) (vs : List AV) (bs : List (List Value)) (σ : Store) (h : slices_Index.d7 g vs bs σ) : SndF Pr F.slices_Index slices_Index.H slices_Index.T K 7 vs bs σ := by
  unfold slices_Index.d7 at h
  split at h
  · exact hg _ h
  · exact h.elim
theorem slices_Index.d2_ok {K : Value → Store → Prop} {g : slices_Index.R2} (hg : ∀ sA sN sC v t7 t8 σ, g sA sN sC v t7 t8 σ → slices_Index.S2 K sA sN sC v t7 t8 σ) (vs : List AV) (bs : List (List Value)) (σ : Store) (h : slices_Index.d2 g vs bs σ) : SndF Pr F.slices_Index slices_Index.H slices_Index.T K 2 vs bs σ := by
  unfold slices_Index.d2 at h
  split at h
  · exact hg _ _ _ _ _ _ _ h
  · exact h.elim
noncomputable def slices_Index.h7 (K : Value → Store → Prop) : Hand := hsel []
theorem slices_Index.j7_eq (K : Value → Store → Prop) (σ : Store) : (seg Pr slices_Index.H F.slices_Index slices_Index.T (slices_Index.h7 K ) K (slices_Index.T 7) (Ev.cutE slices_Index.H 7 [] []) σ) = slices_Index.j7 K σ := by kernel_rfl
theorem slices_Index.j7_ok (K : Value → Store → Prop) (σ : Store) (h : slices_Index.j7 K σ) : slices_Index.S7 K σ := by
  rw [← slices_Index.j7_eq] at h
  exact seg_snd Pr_mixed (hsel_sound fun x hx => by
    cases hx) h
noncomputable def slices_Index.h2 (K : Value → Store → Prop) (rr2 : slices_Index.R2) : Hand := hsel [(7, slices_Index.d7 (slices_Index.j7 K )), (2, slices_Index.d2 rr2)]
theorem slices_Index.b2_eq (K : Value → Store → Prop) (rr2 : slices_Index.R2) (sA : Option Addr) (sN sC : Nat) (v t7 t8 : Int) (σ : Store) : (seg Pr slices_Index.H F.slices_Index slices_Index.T (slices_Index.h2 K rr2) K (slices_Index.T 2) (Ev.cutE slices_Index.H 2 [.v (.slice sA sN sC), .v (.int .i64 v), .v (.int .i64 t7), .v (.int .i64 t8)] []) σ) = slices_Index.b2 K rr2 sA sN sC v t7 t8 σ := by kernel_rfl
theorem slices_Index.b2_ok (K : Value → Store → Prop) (rr2 : slices_Index.R2) (hh2 : ∀ sA sN sC v t7 t8 σ, rr2 sA sN sC v t7 t8 σ → slices_Index.S2 K sA sN sC v t7 t8 σ) (sA : Option Addr) (sN sC : Nat) (v t7 t8 : Int) (σ : Store) (h : slices_Index.b2 K rr2 sA sN sC v t7 t8 σ) : slices_Index.S2 K sA sN sC v t7 t8 σ := by
  rw [← slices_Index.b2_eq] at h
  exact seg_snd Pr_mixed (hsel_sound fun x hx => by
    simp only [List.mem_cons, List.not_mem_nil, or_false] at hx
    rcases hx with rfl | rfl
    · exact slices_Index.d7_ok fun _ h => slices_Index.j7_ok K _ h
    · exact slices_Index.d2_ok hh2) h
theorem slices_Index.l2_ok (K : Value → Store → Prop) : ∀ (n : Nat) (sA : Option Addr) (sN sC : Nat) (v t7 t8 : Int) (σ : Store), slices_Index.l2 K n sA sN sC v t7 t8 σ → slices_Index.S2 K sA sN sC v t7 t8 σ
  | 0, _, _, _, _, _, _, _, h => h.elim
  | n + 1, _, _, _, _, _, _, _, h => slices_Index.b2_ok K (slices_Index.l2 K n) (slices_Index.l2_ok K n) _ _ _ _ _ _ _ h
noncomputable def slices_Index.h (K : Value → Store → Prop) : Hand := hsel [(2, slices_Index.d2 fun sA sN sC v t7 t8 σ => ∃ n : Nat, slices_Index.l2 K n sA sN sC v t7 t8 σ)]
theorem slices_Index.m_eq (K : Value → Store → Prop) (sA : Option Addr) (sN sC : Nat) (v : Int) (σ : Store) : (segF Pr slices_Index.H F.slices_Index slices_Index.T (slices_Index.h K) K [.slice sA sN sC, .int .i64 v] σ) = slices_Index.m K sA sN sC v σ := by kernel_rfl
theorem slices_Index.ok {K : Value → Store → Prop} {sA : Option Addr} {sN sC : Nat} {v : Int} {σ : Store} (h : slices_Index.m K sA sN sC v σ) : Spec Pr F.slices_Index [.slice sA sN sC, .int .i64 v] σ K := by
  rw [← slices_Index.m_eq] at h
  exact segF_spec Pr_mixed (hsel_sound fun x hx => by
    simp only [List.mem_cons, List.not_mem_nil, or_false] at hx
    subst hx
    exact slices_Index.d2_ok fun _ _ _ _ _ _ _ ⟨n, h⟩ => slices_Index.l2_ok K n _ _ _ _ _ _ _ h) h

/-! ### corral/corralref1.Bits -/
def corralref1_Bits.H : Hints := { esc := [], cuts := [(3, [0, 1, 2], [])] }
noncomputable def corralref1_Bits.T : Nat → List Item := stk Pr F.corralref1_Bits [(3, [1, 1])]
abbrev corralref1_Bits.R3 : Type := Int → Int → Int → Store → Prop
def corralref1_Bits.d3 (g : corralref1_Bits.R3) : List AV → List (List Value) → Store → Prop
  | [.v (.int .u32 x), .v (.int .i64 low), .v (.int .i64 n_)], [], σ => g x low n_ σ
  | _, _, _ => False
def corralref1_Bits.S3 (K : Value → Store → Prop) (x low n_ : Int) (σ : Store) : Prop := SndF Pr F.corralref1_Bits corralref1_Bits.H corralref1_Bits.T K 3 [.v (.int .u32 x), .v (.int .i64 low), .v (.int .i64 n_)] [] σ
def corralref1_Bits.j3 (K : Value → Store → Prop) (x low n_ : Int) (σ : Store) : Prop :=
  Req (decide (0 ≤ (IntKind.wrap .u64 low))) (
    cond (decide (n_ ≥ 32))
    (K (.int .u32 (shrI .u32 x (IntKind.wrap .u64 low))) σ)
    (Req (decide (0 ≤ (IntKind.wrap .u64 n_))) (
        K (.int .u32 (andI .u32 (shrI .u32 x (IntKind.wrap .u64 low)) (IntKind.wrap .u32 ((shlI .u32 1 (IntKind.wrap .u64 n_)) - 1)))) σ)))
def corralref1_Bits.m (K : Value → Store → Prop) (x low n_ : Int) (σ : Store) : Prop :=
  cond (decide (low < 0))
  (K (.int .u32 0) σ)
  (cond (decide (low > 31))
    (K (.int .u32 0) σ)
    (cond (decide (n_ < 1))
      (K (.int .u32 0) σ)
      (Hop (corralref1_Bits.T 3) (corralref1_Bits.T 3) (corralref1_Bits.j3 K x low n_ σ))))
theorem corralref1_Bits.d3_ok {K : Value → Store → Prop} {g : corralref1_Bits.R3} (hg : ∀ x low n_ σ, g x low n_ σ → corralref1_Bits.S3 K x low n_ σ) (vs : List AV) (bs : List (List Value)) (σ : Store) (h : corralref1_Bits.d3 g vs bs σ) : SndF Pr F.corralref1_Bits corralref1_Bits.H corralref1_Bits.T K 3 vs bs σ := by
  unfold corralref1_Bits.d3 at h
  split at h
  · exact hg _ _ _ _ h
  · exact h.elim
noncomputable def corralref1_Bits.h3 (K : Value → Store → Prop) : Hand := hsel []
theorem corralref1_Bits.j3_eq (K : Value → Store → Prop) (x low n_ : Int) (σ : Store) : (seg Pr corralref1_Bits.H F.corralref1_Bits corralref1_Bits.T (corralref1_Bits.h3 K ) K (corralref1_Bits.T 3) (Ev.cutE corralref1_Bits.H 3 [.v (.int .u32 x), .v (.int .i64 low), .v (.int .i64 n_)] []) σ) = corralref1_Bits.j3 K x low n_ σ := by kernel_rfl
theorem corralref1_Bits.j3_ok (K : Value → Store → Prop) (x low n_ : Int) (σ : Store) (h : corralref1_Bits.j3 K x low n_ σ) : corralref1_Bits.S3 K x low n_ σ := by
  rw [← corralref1_Bits.j3_eq] at h
  exact seg_snd Pr_mixed (hsel_sound fun x hx => by
    cases hx) h
noncomputable def corralref1_Bits.h (K : Value → Store → Prop) : Hand := hsel [(3, corralref1_Bits.d3 (corralref1_Bits.j3 K ))]
theorem corralref1_Bits.m_eq (K : Value → Store → Prop) (x low n_ : Int) (σ : Store) : (segF Pr corralref1_Bits.H F.corralref1_Bits corralref1_Bits.T (corralref1_Bits.h K) K [.int .u32 x, .int .i64 low, .int .i64 n_] σ) = corralref1_Bits.m K x low n_ σ := by kernel_rfl
theorem corralref1_Bits.ok {K : Value → Store → Prop} {x low n_ : Int} {σ : Store} (h : corralref1_Bits.m K x low n_ σ) : Spec Pr F.corralref1_Bits [.int .u32 x, .int .i64 low, .int .i64 n_] σ K := by
  rw [← corralref1_Bits.m_eq] at h
  exact segF_spec Pr_mixed (hsel_sound fun x hx => by
    simp only [List.mem_cons, List.not_mem_nil, or_false] at hx
    subst hx
    exact corralref1_Bits.d3_ok fun _ _ _ _ h => corralref1_Bits.j3_ok K _ _ _ _ h) h

/-! ### corral/corralref1.Sign -/
def corralref1_Sign.H : Hints := { esc := [], cuts := [] }
noncomputable def corralref1_Sign.T : Nat → List Item := stk Pr F.corralref1_Sign []
def corralref1_Sign.m (K : Value → Store → Prop) (x n_ : Int) (σ : Store) : Prop :=
  cond (decide (n_ < 1))
  (K (.int .u32 0) σ)
  (cond (decide (n_ > 31))
    (K (.int .u32 x) σ)
    (Req (decide (0 ≤ (IntKind.wrap .u64 n_))) (
        Req (decide (0 ≤ (IntKind.wrap .u64 (IntKind.wrap .i64 (n_ - 1))))) (
          cond ((shrI .u32 (andI .u32 x (IntKind.wrap .u32 ((shlI .u32 1 (IntKind.wrap .u64 n_)) - 1))) (IntKind.wrap .u64 (IntKind.wrap .i64 (n_ - 1)))) == 1)
          (Req (decide (0 ≤ (IntKind.wrap .u64 n_))) (
              K (.int .u32 (orI .u32 (andI .u32 x (IntKind.wrap .u32 ((shlI .u32 1 (IntKind.wrap .u64 n_)) - 1))) (notI .u32 (IntKind.wrap .u32 ((shlI .u32 1 (IntKind.wrap .u64 n_)) - 1))))) σ))
          (K (.int .u32 (andI .u32 x (IntKind.wrap .u32 ((shlI .u32 1 (IntKind.wrap .u64 n_)) - 1)))) σ)))))
noncomputable def corralref1_Sign.h (K : Value → Store → Prop) : Hand := hsel []
theorem corralref1_Sign.m_eq (K : Value → Store → Prop) (x n_ : Int) (σ : Store) : (segF Pr corralref1_Sign.H F.corralref1_Sign corralref1_Sign.T (corralref1_Sign.h K) K [.int .u32 x, .int .i64 n_] σ) = corralref1_Sign.m K x n_ σ := by kernel_rfl
theorem corralref1_Sign.ok {K : Value → Store → Prop} {x n_ : Int} {σ : Store} (h : corralref1_Sign.m K x n_ σ) : Spec Pr F.corralref1_Sign [.int .u32 x, .int .i64 n_] σ K := by
  rw [← corralref1_Sign.m_eq] at h
  exact segF_spec Pr_mixed (hsel_sound fun x hx => by
    cases hx) h

/-! ### corral/corralref1.Place -/
def corralref1_Place.H : Hints := { esc := [], cuts := [(3, [0, 1, 2], [])] }
noncomputable def corralref1_Place.T : Nat → List Item := stk Pr F.corralref1_Place [(3, [1, 1])]
abbrev corralref1_Place.R3 : Type := Int → Int → Int → Store → Prop
def corralref1_Place.d3 (g : corralref1_Place.R3) : List AV → List (List Value) → Store → Prop
  | [.v (.int .u32 v), .v (.int .i64 low), .v (.int .i64 n_)], [], σ => g v low n_ σ
  | _, _, _ => False
def corralref1_Place.S3 (K : Value → Store → Prop) (v low n_ : Int) (σ : Store) : Prop := SndF Pr F.corralref1_Place corralref1_Place.H corralref1_Place.T K 3 [.v (.int .u32 v), .v (.int .i64 low), .v (.int .i64 n_)] [] σ
def corralref1_Place.j3 (K : Value → Store → Prop) (v low n_ : Int) (σ : Store) : Prop :=
  Spec Pr F.corralref1_Bits [.int .u32 v, .int .i64 0, .int .i64 n_] σ fun v1 σ_ => ∃ t19 : Int, v1 = .int .u32 t19 ∧
  Req (decide (0 ≤ (IntKind.wrap .u64 low))) (
    K (.int .u32 (shlI .u32 t19 (IntKind.wrap .u64 low))) σ_)
def corralref1_Place.m (K : Value → Store → Prop) (v low n_ : Int) (σ : Store) : Prop :=
  cond (decide (low < 0))
  (K (.int .u32 0) σ)
  (cond (decide (low > 31))
    (K (.int .u32 0) σ)
    (cond (decide (n_ < 1))
      (K (.int .u32 0) σ)
      (Hop (corralref1_Place.T 3) (corralref1_Place.T 3) (corralref1_Place.j3 K v low n_ σ))))
theorem corralref1_Place.d3_ok {K : Value → Store → Prop} {g : corralref1_Place.R3} (hg : ∀ v low n_ σ, g v low n_ σ → corralref1_Place.S3 K v low n_ σ) (vs : List AV) (bs : List (List Value)) (σ : Store) (h : corralref1_Place.d3 g vs bs σ) : SndF Pr F.corralref1_Place corralref1_Place.H corralref1_Place.T K 3 vs bs σ := by
  unfold corralref1_Place.d3 at h
  split at h
  · exact hg _ _ _ _ h
  · exact h.elim
noncomputable def corralref1_Place.h3 (K : Value → Store → Prop) : Hand := hsel []
theorem corralref1_Place.j3_eq (K : Value → Store → Prop) (v low n_ : Int) (σ : Store) : (seg Pr corralref1_Place.H F.corralref1_Place corralref1_Place.T (corralref1_Place.h3 K ) K (corralref1_Place.T 3) (Ev.cutE corralref1_Place.H 3 [.v (.int .u32 v), .v (.int .i64 low), .v (.int .i64 n_)] []) σ) = corralref1_Place.j3 K v low n_ σ := by kernel_rfl
theorem corralref1_Place.j3_ok (K : Value → Store → Prop) (v low n_ : Int) (σ : Store) (h : corralref1_Place.j3 K v low n_ σ) : corralref1_Place.S3 K v low n_ σ := by
  rw [← corralref1_Place.j3_eq] at h
  exact seg_snd Pr_mixed (hsel_sound fun x hx => by
    cases hx) h
noncomputable def corralref1_Place.h (K : Value → Store → Prop) : Hand := hsel [(3, corralref1_Place.d3 (corralref1_Place.j3 K ))]
theorem corralref1_Place.m_eq (K : Value → Store → Prop) (v low n_ : Int) (σ : Store) : (segF Pr corralref1_Place.H F.corralref1_Place corralref1_Place.T (corralref1_Place.h K) K [.int .u32 v, .int .i64 low, .int .i64 n_] σ) = corralref1_Place.m K v low n_ σ := by kernel_rfl
theorem corralref1_Place.ok {K : Value → Store → Prop} {v low n_ : Int} {σ : Store} (h : corralref1_Place.m K v low n_ σ) : Spec Pr F.corralref1_Place [.int .u32 v, .int .i64 low, .int .i64 n_] σ K := by
  rw [← corralref1_Place.m_eq] at h
  exact segF_spec Pr_mixed (hsel_sound fun x hx => by
    simp only [List.mem_cons, List.not_mem_nil, or_false] at hx
    subst hx
    exact corralref1_Place.d3_ok fun _ _ _ _ h => corralref1_Place.j3_ok K _ _ _ _ h) h

/-! ### corral/corralref1.Imm -/
def corralref1_Imm.H : Hints := { esc := [], cuts := [] }
noncomputable def corralref1_Imm.T : Nat → List Item := stk Pr F.corralref1_Imm []
def corralref1_Imm.m (K : Value → Store → Prop) (format w : Int) (σ : Store) : Prop :=
  cond (format == 73)
  (Spec Pr F.corralref1_Bits [.int .u32 w, .int .i64 20, .int .i64 12] σ fun v σ_ => ∃ t9 : Int, v = .int .u32 t9 ∧
    Spec Pr F.corralref1_Sign [.int .u32 t9, .int .i64 12] σ_ fun v1 σ_1 => ∃ t10 : Int, v1 = .int .u32 t10 ∧
    K (.int .u32 t10) σ_1)
  (cond (format == 83)
    (Spec Pr F.corralref1_Bits [.int .u32 w, .int .i64 25, .int .i64 7] σ fun v2 σ_2 => ∃ t14 : Int, v2 = .int .u32 t14 ∧
      Spec Pr F.corralref1_Bits [.int .u32 w, .int .i64 7, .int .i64 5] σ_2 fun v3 σ_3 => ∃ t17 : Int, v3 = .int .u32 t17 ∧
      Spec Pr F.corralref1_Sign [.int .u32 (orI .u32 (shlI .u32 t14 5) t17), .int .i64 12] σ_3 fun v4 σ_4 => ∃ t19 : Int, v4 = .int .u32 t19 ∧
      K (.int .u32 t19) σ_4)
    (cond (format == 66)
      (Spec Pr F.corralref1_Bits [.int .u32 w, .int .i64 31, .int .i64 1] σ fun v5 σ_5 => ∃ t23 : Int, v5 = .int .u32 t23 ∧
        Spec Pr F.corralref1_Bits [.int .u32 w, .int .i64 7, .int .i64 1] σ_5 fun v6 σ_6 => ∃ t26 : Int, v6 = .int .u32 t26 ∧
        Spec Pr F.corralref1_Bits [.int .u32 w, .int .i64 25, .int .i64 6] σ_6 fun v7 σ_7 => ∃ t30 : Int, v7 = .int .u32 t30 ∧
        Spec Pr F.corralref1_Bits [.int .u32 w, .int .i64 8, .int .i64 4] σ_7 fun v8 σ_8 => ∃ t34 : Int, v8 = .int .u32 t34 ∧
        Spec Pr F.corralref1_Sign [.int .u32 (orI .u32 (orI .u32 (orI .u32 (shlI .u32 t23 12) (shlI .u32 t26 11)) (shlI .u32 t30 5)) (shlI .u32 t34 1)), .int .i64 13] σ_8 fun v9 σ_9 => ∃ t37 : Int, v9 = .int .u32 t37 ∧
        K (.int .u32 t37) σ_9)
      (cond (format == 85)
        (Spec Pr F.corralref1_Bits [.int .u32 w, .int .i64 12, .int .i64 20] σ fun v10 σ_10 => ∃ t41 : Int, v10 = .int .u32 t41 ∧
          K (.int .u32 (shlI .u32 t41 12)) σ_10)
        (cond (format == 74)
          (Spec Pr F.corralref1_Bits [.int .u32 w, .int .i64 31, .int .i64 1] σ fun v11 σ_11 => ∃ t46 : Int, v11 = .int .u32 t46 ∧
            Spec Pr F.corralref1_Bits [.int .u32 w, .int .i64 12, .int .i64 8] σ_11 fun v12 σ_12 => ∃ t49 : Int, v12 = .int .u32 t49 ∧
            Spec Pr F.corralref1_Bits [.int .u32 w, .int .i64 20, .int .i64 1] σ_12 fun v13 σ_13 => ∃ t53 : Int, v13 = .int .u32 t53 ∧
            Spec Pr F.corralref1_Bits [.int .u32 w, .int .i64 21, .int .i64 10] σ_13 fun v14 σ_14 => ∃ t57 : Int, v14 = .int .u32 t57 ∧
            Spec Pr F.corralref1_Sign [.int .u32 (orI .u32 (orI .u32 (orI .u32 (shlI .u32 t46 20) (shlI .u32 t49 12)) (shlI .u32 t53 11)) (shlI .u32 t57 1)), .int .i64 21] σ_14 fun v15 σ_15 => ∃ t60 : Int, v15 = .int .u32 t60 ∧
            K (.int .u32 t60) σ_15)
          (K (.int .u32 0) σ)))))
noncomputable def corralref1_Imm.h (K : Value → Store → Prop) : Hand := hsel []
theorem corralref1_Imm.m_eq (K : Value → Store → Prop) (format w : Int) (σ : Store) : (segF Pr corralref1_Imm.H F.corralref1_Imm corralref1_Imm.T (corralref1_Imm.h K) K [.int .u8 format, .int .u32 w] σ) = corralref1_Imm.m K format w σ := by kernel_rfl
theorem corralref1_Imm.ok {K : Value → Store → Prop} {format w : Int} {σ : Store} (h : corralref1_Imm.m K format w σ) : Spec Pr F.corralref1_Imm [.int .u8 format, .int .u32 w] σ K := by
  rw [← corralref1_Imm.m_eq] at h
  exact segF_spec Pr_mixed (hsel_sound fun x hx => by
    cases hx) h

/-! ### corral/corralref1.Lay -/
def corralref1_Lay.H : Hints := { esc := [], cuts := [(14, [0, 1, 6], [])] }
noncomputable def corralref1_Lay.T : Nat → List Item := stk Pr F.corralref1_Lay [(14, [1, 1, 1])]
abbrev corralref1_Lay.R14 : Type := Int → Int → Int → Store → Prop
def corralref1_Lay.d14 (g : corralref1_Lay.R14) : List AV → List (List Value) → Store → Prop
  | [.v (.int .u8 format), .v (.int .u32 imm), .v (.int .u32 w)], [], σ => g format imm w σ
  | _, _, _ => False
def corralref1_Lay.S14 (K : Value → Store → Prop) (format imm w : Int) (σ : Store) : Prop := SndF Pr F.corralref1_Lay corralref1_Lay.H corralref1_Lay.T K 14 [.v (.int .u8 format), .v (.int .u32 imm), .v (.int .u32 w)] [] σ
def corralref1_Lay.j14 (K : Value → Store → Prop) (format imm w : Int) (σ : Store) : Prop :=
  Spec Pr F.corralref1_Imm [.int .u8 format, .int .u32 w] σ fun v σ_ => ∃ t61 : Int, v = .int .u32 t61 ∧
  cond (t61 != imm)
  (K (.tuple #[.int .u32 0, .bool false]) σ_)
  (K (.tuple #[.int .u32 w, .bool true]) σ_)
def corralref1_Lay.m (K : Value → Store → Prop) (format imm : Int) (σ : Store) : Prop :=
  cond (format == 73)
  (Spec Pr F.corralref1_Place [.int .u32 imm, .int .i64 20, .int .i64 12] σ fun v σ_ => ∃ t11 : Int, v = .int .u32 t11 ∧
    Hop (corralref1_Lay.T 14) (corralref1_Lay.T 14) (corralref1_Lay.j14 K format imm t11 σ_))
  (cond (format == 83)
    (Spec Pr F.corralref1_Place [.int .u32 (shrI .u32 imm 5), .int .i64 25, .int .i64 7] σ fun v1 σ_1 => ∃ t16 : Int, v1 = .int .u32 t16 ∧
      Spec Pr F.corralref1_Place [.int .u32 imm, .int .i64 7, .int .i64 5] σ_1 fun v2 σ_2 => ∃ t18 : Int, v2 = .int .u32 t18 ∧
      Hop (corralref1_Lay.T 14) (corralref1_Lay.T 14) (corralref1_Lay.j14 K format imm (orI .u32 t16 t18) σ_2))
    (cond (format == 66)
      (Spec Pr F.corralref1_Place [.int .u32 (shrI .u32 imm 12), .int .i64 31, .int .i64 1] σ fun v3 σ_3 => ∃ t24 : Int, v3 = .int .u32 t24 ∧
        Spec Pr F.corralref1_Place [.int .u32 (shrI .u32 imm 11), .int .i64 7, .int .i64 1] σ_3 fun v4 σ_4 => ∃ t27 : Int, v4 = .int .u32 t27 ∧
        Spec Pr F.corralref1_Place [.int .u32 (shrI .u32 imm 5), .int .i64 25, .int .i64 6] σ_4 fun v5 σ_5 => ∃ t31 : Int, v5 = .int .u32 t31 ∧
        Spec Pr F.corralref1_Place [.int .u32 (shrI .u32 imm 1), .int .i64 8, .int .i64 4] σ_5 fun v6 σ_6 => ∃ t35 : Int, v6 = .int .u32 t35 ∧
        Hop (corralref1_Lay.T 14) (corralref1_Lay.T 14) (corralref1_Lay.j14 K format imm (orI .u32 (orI .u32 (orI .u32 t24 t27) t31) t35) σ_6))
      (cond (format == 85)
        (Spec Pr F.corralref1_Place [.int .u32 (shrI .u32 imm 12), .int .i64 12, .int .i64 20] σ fun v7 σ_7 => ∃ t41 : Int, v7 = .int .u32 t41 ∧
          Hop (corralref1_Lay.T 14) (corralref1_Lay.T 14) (corralref1_Lay.j14 K format imm t41 σ_7))
        (cond (format == 74)
          (Spec Pr F.corralref1_Place [.int .u32 (shrI .u32 imm 20), .int .i64 31, .int .i64 1] σ fun v8 σ_8 => ∃ t46 : Int, v8 = .int .u32 t46 ∧
            Spec Pr F.corralref1_Place [.int .u32 (shrI .u32 imm 12), .int .i64 12, .int .i64 8] σ_8 fun v9 σ_9 => ∃ t49 : Int, v9 = .int .u32 t49 ∧
            Spec Pr F.corralref1_Place [.int .u32 (shrI .u32 imm 11), .int .i64 20, .int .i64 1] σ_9 fun v10 σ_10 => ∃ t53 : Int, v10 = .int .u32 t53 ∧
            Spec Pr F.corralref1_Place [.int .u32 (shrI .u32 imm 1), .int .i64 21, .int .i64 10] σ_10 fun v11 σ_11 => ∃ t57 : Int, v11 = .int .u32 t57 ∧
            Hop (corralref1_Lay.T 14) (corralref1_Lay.T 14) (corralref1_Lay.j14 K format imm (orI .u32 (orI .u32 (orI .u32 t46 t49) t53) t57) σ_11))
          (K (.tuple #[.int .u32 0, .bool false]) σ)))))
theorem corralref1_Lay.d14_ok {K : Value → Store → Prop} {g : corralref1_Lay.R14} (hg : ∀ format imm w σ, g format imm w σ → corralref1_Lay.S14 K format imm w σ) (vs : List AV) (bs : List (List Value)) (σ : Store) (h : corralref1_Lay.d14 g vs bs σ) : SndF Pr F.corralref1_Lay corralref1_Lay.H corralref1_Lay.T K 14 vs bs σ := by
  unfold corralref1_Lay.d14 at h
  split at h
  · exact hg _ _ _ _ h
  · exact h.elim
noncomputable def corralref1_Lay.h14 (K : Value → Store → Prop) : Hand := hsel []
theorem corralref1_Lay.j14_eq (K : Value → Store → Prop) (format imm w : Int) (σ : Store) : (seg Pr corralref1_Lay.H F.corralref1_Lay corralref1_Lay.T (corralref1_Lay.h14 K ) K (corralref1_Lay.T 14) (Ev.cutE corralref1_Lay.H 14 [.v (.int .u8 format), .v (.int .u32 imm), .v (.int .u32 w)] []) σ) = corralref1_Lay.j14 K format imm w σ := by kernel_rfl
theorem corralref1_Lay.j14_ok (K : Value → Store → Prop) (format imm w : Int) (σ : Store) (h : corralref1_Lay.j14 K format imm w σ) : corralref1_Lay.S14 K format imm w σ := by
  rw [← corralref1_Lay.j14_eq] at h
  exact seg_snd Pr_mixed (hsel_sound fun x hx => by
    cases hx) h
noncomputable def corralref1_Lay.h (K : Value → Store → Prop) : Hand := hsel [(14, corralref1_Lay.d14 (corralref1_Lay.j14 K ))]
theorem corralref1_Lay.m_eq (K : Value → Store → Prop) (format imm : Int) (σ : Store) : (segF Pr corralref1_Lay.H F.corralref1_Lay corralref1_Lay.T (corralref1_Lay.h K) K [.int .u8 format, .int .u32 imm] σ) = corralref1_Lay.m K format imm σ := by kernel_rfl
theorem corralref1_Lay.ok {K : Value → Store → Prop} {format imm : Int} {σ : Store} (h : corralref1_Lay.m K format imm σ) : Spec Pr F.corralref1_Lay [.int .u8 format, .int .u32 imm] σ K := by
  rw [← corralref1_Lay.m_eq] at h
  exact segF_spec Pr_mixed (hsel_sound fun x hx => by
    simp only [List.mem_cons, List.not_mem_nil, or_false] at hx
    subst hx
    exact corralref1_Lay.d14_ok fun _ _ _ _ h => corralref1_Lay.j14_ok K _ _ _ _ h) h

/-! ### corral/corralref1.imm -/
def corralref1_imm.H : Hints := { esc := [], cuts := [] }
noncomputable def corralref1_imm.T : Nat → List Item := stk Pr F.corralref1_imm []
def corralref1_imm.m (K : Value → Store → Prop) (format w : Int) (σ : Store) : Prop :=
  cond (format == 90)
  (Spec Pr F.corralref1_Bits [.int .u32 w, .int .i64 20, .int .i64 5] σ fun v σ_ => ∃ t9 : Int, v = .int .u32 t9 ∧
    K (.int .u32 t9) σ_)
  (cond (format == 67)
    (Spec Pr F.corralref1_Bits [.int .u32 w, .int .i64 15, .int .i64 5] σ fun v1 σ_1 => ∃ t13 : Int, v1 = .int .u32 t13 ∧
      K (.int .u32 t13) σ_1)
    (cond (format == 70)
      (Spec Pr F.corralref1_Bits [.int .u32 w, .int .i64 20, .int .i64 8] σ fun v2 σ_2 => ∃ t17 : Int, v2 = .int .u32 t17 ∧
        K (.int .u32 t17) σ_2)
      (Spec Pr F.corralref1_Imm [.int .u8 format, .int .u32 w] σ fun v3 σ_3 => ∃ t20 : Int, v3 = .int .u32 t20 ∧
        K (.int .u32 t20) σ_3)))
noncomputable def corralref1_imm.h (K : Value → Store → Prop) : Hand := hsel []
theorem corralref1_imm.m_eq (K : Value → Store → Prop) (format w : Int) (σ : Store) : (segF Pr corralref1_imm.H F.corralref1_imm corralref1_imm.T (corralref1_imm.h K) K [.int .u8 format, .int .u32 w] σ) = corralref1_imm.m K format w σ := by kernel_rfl
theorem corralref1_imm.ok {K : Value → Store → Prop} {format w : Int} {σ : Store} (h : corralref1_imm.m K format w σ) : Spec Pr F.corralref1_imm [.int .u8 format, .int .u32 w] σ K := by
  rw [← corralref1_imm.m_eq] at h
  exact segF_spec Pr_mixed (hsel_sound fun x hx => by
    cases hx) h

/-! ### corral/corralref1.lay -/
def corralref1_lay.H : Hints := { esc := [], cuts := [] }
noncomputable def corralref1_lay.T : Nat → List Item := stk Pr F.corralref1_lay []
def corralref1_lay.m (K : Value → Store → Prop) (format v : Int) (σ : Store) : Prop :=
  cond (format == 0)
  (K (.tuple #[.int .u32 0, .bool (v == 0)]) σ)
  (cond (format == 90)
    (K (.tuple #[.int .u32 (shlI .u32 v 20), .bool (decide (v < 32))]) σ)
    (cond (format == 67)
      (K (.tuple #[.int .u32 (shlI .u32 v 15), .bool (decide (v < 32))]) σ)
      (cond (format == 70)
        (K (.tuple #[.int .u32 (shlI .u32 v 20), .bool (decide (v < 256))]) σ)
        (Spec Pr F.corralref1_Lay [.int .u8 format, .int .u32 v] σ fun v1 σ_ => ∃ t31a : Int, ∃ t31b : Bool, v1 = .tuple #[.int .u32 t31a, .bool t31b] ∧
          K (.tuple #[.int .u32 t31a, .bool t31b]) σ_))))
noncomputable def corralref1_lay.h (K : Value → Store → Prop) : Hand := hsel []
theorem corralref1_lay.m_eq (K : Value → Store → Prop) (format v : Int) (σ : Store) : (segF Pr corralref1_lay.H F.corralref1_lay corralref1_lay.T (corralref1_lay.h K) K [.int .u8 format, .int .u32 v] σ) = corralref1_lay.m K format v σ := by kernel_rfl
theorem corralref1_lay.ok {K : Value → Store → Prop} {format v : Int} {σ : Store} (h : corralref1_lay.m K format v σ) : Spec Pr F.corralref1_lay [.int .u8 format, .int .u32 v] σ K := by
  rw [← corralref1_lay.m_eq] at h
  exact segF_spec Pr_mixed (hsel_sound fun x hx => by
    cases hx) h

/-! ### corral/corralref1.reg -/
def corralref1_reg.H : Hints := { esc := [], cuts := [] }
noncomputable def corralref1_reg.T : Nat → List Item := stk Pr F.corralref1_reg []
def corralref1_reg.m (K : Value → Store → Prop) (n_ : Int) (σ : Store) : Prop :=
  cond (decide (n_ ≥ 0))
  (K (.bool (decide (n_ ≤ 31))) σ)
  (K (.bool false) σ)
noncomputable def corralref1_reg.h (K : Value → Store → Prop) : Hand := hsel []
theorem corralref1_reg.m_eq (K : Value → Store → Prop) (n_ : Int) (σ : Store) : (segF Pr corralref1_reg.H F.corralref1_reg corralref1_reg.T (corralref1_reg.h K) K [.int .i64 n_] σ) = corralref1_reg.m K n_ σ := by kernel_rfl
theorem corralref1_reg.ok {K : Value → Store → Prop} {n_ : Int} {σ : Store} (h : corralref1_reg.m K n_ σ) : Spec Pr F.corralref1_reg [.int .i64 n_] σ K := by
  rw [← corralref1_reg.m_eq] at h
  exact segF_spec Pr_mixed (hsel_sound fun x hx => by
    cases hx) h

/-! ### corral/corralref1.row -/
def corralref1_row.H : Hints := { esc := [], cuts := [(5, [4, 6], [(14, 38), (15, 38)]), (8, [6], [(14, 38), (15, 38)]), (9, [6, 16], [(14, 38), (15, 38)]), (22, [], [(14, 38), (15, 38)])] }
noncomputable def corralref1_row.T : Nat → List Item := stk Pr F.corralref1_row [(5, [1, 1, 1]), (8, [1, 1, 1, 1]), (9, [1, 1, 1, 1, 0, 1, 0, 0]), (22, [1, 1, 1, 1, 1])]
abbrev corralref1_row.R22 : Type := Int → ByteArray → Int → Int → Int → Bool → Bool → Int → Bool → Bool → Bool → Bool → Int → Bool → Int → ByteArray → Int → Int → Int → Bool → Bool → Int → Bool → Bool → Bool → Bool → Int → Bool → Store → Prop
abbrev corralref1_row.R9 : Type := ByteArray → Int → Int → ByteArray → Int → Int → Int → Bool → Bool → Int → Bool → Bool → Bool → Bool → Int → Bool → Int → ByteArray → Int → Int → Int → Bool → Bool → Int → Bool → Bool → Bool → Bool → Int → Bool → Store → Prop
abbrev corralref1_row.R8 : Type := ByteArray → Int → ByteArray → Int → Int → Int → Bool → Bool → Int → Bool → Bool → Bool → Bool → Int → Bool → Int → ByteArray → Int → Int → Int → Bool → Bool → Int → Bool → Bool → Bool → Bool → Int → Bool → Store → Prop
abbrev corralref1_row.R5 : Type := Int → ByteArray → Int → ByteArray → Int → Int → Int → Bool → Bool → Int → Bool → Bool → Bool → Bool → Int → Bool → Int → ByteArray → Int → Int → Int → Bool → Bool → Int → Bool → Bool → Bool → Bool → Int → Bool → Store → Prop
def corralref1_row.d22 (g : corralref1_row.R22) : List AV → List (List Value) → Store → Prop
  | [], [[.int .i64 t140, .string t141, .int .u32 t142, .int .u32 t143, .int .u32 t144, .bool t145, .bool t146, .int .u8 t147, .bool t148, .bool t149, .bool t1410, .bool t1411, .int .u32 t1412, .bool t1413], [.int .i64 r0, .string r1, .int .u32 r2, .int .u32 r3, .int .u32 r4, .bool r5, .bool r6, .int .u8 r7, .bool r8, .bool r9, .bool r10, .bool r11, .int .u32 r12, .bool r13]], σ => g t140 t141 t142 t143 t144 t145 t146 t147 t148 t149 t1410 t1411 t1412 t1413 r0 r1 r2 r3 r4 r5 r6 r7 r8 r9 r10 r11 r12 r13 σ
  | _, _, _ => False
def corralref1_row.S22 (K : Value → Store → Prop) (t140 : Int) (t141 : ByteArray) (t142 t143 t144 : Int) (t145 t146 : Bool) (t147 : Int) (t148 t149 t1410 t1411 : Bool) (t1412 : Int) (t1413 : Bool) (r0 : Int) (r1 : ByteArray) (r2 r3 r4 : Int) (r5 r6 : Bool) (r7 : Int) (r8 r9 r10 r11 : Bool) (r12 : Int) (r13 : Bool) (σ : Store) : Prop := SndF Pr F.corralref1_row corralref1_row.H corralref1_row.T K 22 [] [[.int .i64 t140, .string t141, .int .u32 t142, .int .u32 t143, .int .u32 t144, .bool t145, .bool t146, .int .u8 t147, .bool t148, .bool t149, .bool t1410, .bool t1411, .int .u32 t1412, .bool t1413], [.int .i64 r0, .string r1, .int .u32 r2, .int .u32 r3, .int .u32 r4, .bool r5, .bool r6, .int .u8 r7, .bool r8, .bool r9, .bool r10, .bool r11, .int .u32 r12, .bool r13]] σ
def corralref1_row.j22 (K : Value → Store → Prop) (t140 : Int) (t141 : ByteArray) (t142 t143 t144 : Int) (t145 t146 : Bool) (t147 : Int) (t148 t149 t1410 t1411 : Bool) (t1412 : Int) (t1413 : Bool) (r0 : Int) (r1 : ByteArray) (r2 r3 r4 : Int) (r5 r6 : Bool) (r7 : Int) (r8 r9 r10 r11 : Bool) (r12 : Int) (r13 : Bool) (σ : Store) : Prop :=
  K (.agg #[.int .i64 r0, .string r1, .int .u32 r2, .int .u32 r3, .int .u32 r4, .bool r5, .bool r6, .int .u8 r7, .bool r8, .bool r9, .bool r10, .bool r11, .int .u32 r12, .bool r13]) σ
def corralref1_row.d9 (g : corralref1_row.R9) : List AV → List (List Value) → Store → Prop
  | [.v (.string uses), .v (.int .i64 i)], [[.int .i64 t140, .string t141, .int .u32 t142, .int .u32 t143, .int .u32 t144, .bool t145, .bool t146, .int .u8 t147, .bool t148, .bool t149, .bool t1410, .bool t1411, .int .u32 t1412, .bool t1413], [.int .i64 r0, .string r1, .int .u32 r2, .int .u32 r3, .int .u32 r4, .bool r5, .bool r6, .int .u8 r7, .bool r8, .bool r9, .bool r10, .bool r11, .int .u32 r12, .bool r13]], σ => g uses i t140 t141 t142 t143 t144 t145 t146 t147 t148 t149 t1410 t1411 t1412 t1413 r0 r1 r2 r3 r4 r5 r6 r7 r8 r9 r10 r11 r12 r13 σ
  | _, _, _ => False
def corralref1_row.S9 (K : Value → Store → Prop) (uses : ByteArray) (i t140 : Int) (t141 : ByteArray) (t142 t143 t144 : Int) (t145 t146 : Bool) (t147 : Int) (t148 t149 t1410 t1411 : Bool) (t1412 : Int) (t1413 : Bool) (r0 : Int) (r1 : ByteArray) (r2 r3 r4 : Int) (r5 r6 : Bool) (r7 : Int) (r8 r9 r10 r11 : Bool) (r12 : Int) (r13 : Bool) (σ : Store) : Prop := SndF Pr F.corralref1_row corralref1_row.H corralref1_row.T K 9 [.v (.string uses), .v (.int .i64 i)] [[.int .i64 t140, .string t141, .int .u32 t142, .int .u32 t143, .int .u32 t144, .bool t145, .bool t146, .int .u8 t147, .bool t148, .bool t149, .bool t1410, .bool t1411, .int .u32 t1412, .bool t1413], [.int .i64 r0, .string r1, .int .u32 r2, .int .u32 r3, .int .u32 r4, .bool r5, .bool r6, .int .u8 r7, .bool r8, .bool r9, .bool r10, .bool r11, .int .u32 r12, .bool r13]] σ
def corralref1_row.b9 (K : Value → Store → Prop) (rr9 : corralref1_row.R9) (uses : ByteArray) (i t140 : Int) (t141 : ByteArray) (t142 t143 t144 : Int) (t145 t146 : Bool) (t147 : Int) (t148 t149 t1410 t1411 : Bool) (t1412 : Int) (t1413 : Bool) (r0 : Int) (r1 : ByteArray) (r2 r3 r4 : Int) (r5 r6 : Bool) (r7 : Int) (r8 r9 r10 r11 : Bool) (r12 : Int) (r13 : Bool) (σ : Store) : Prop :=
  cond (decide (i < ((uses.size : Nat) : Int)))
  (Req (decide (0 ≤ i) && decide (i < ((uses.size : Nat) : Int))) (
      cond ((byteAt uses i.toNat) == 100)
      (Hop (corralref1_row.T 9) (corralref1_row.T 9) (rr9 uses (IntKind.wrap .i64 (i + 1)) t140 t141 t142 t143 t144 t145 t146 t147 t148 t149 t1410 t1411 t1412 t1413 r0 r1 r2 r3 r4 r5 r6 r7 true r9 r10 r11 r12 r13 σ))
      (cond ((byteAt uses i.toNat) == 97)
        (Hop (corralref1_row.T 9) (corralref1_row.T 9) (rr9 uses (IntKind.wrap .i64 (i + 1)) t140 t141 t142 t143 t144 t145 t146 t147 t148 t149 t1410 t1411 t1412 t1413 r0 r1 r2 r3 r4 r5 r6 r7 r8 true r10 r11 r12 r13 σ))
        (cond ((byteAt uses i.toNat) == 98)
          (Hop (corralref1_row.T 9) (corralref1_row.T 9) (rr9 uses (IntKind.wrap .i64 (i + 1)) t140 t141 t142 t143 t144 t145 t146 t147 t148 t149 t1410 t1411 t1412 t1413 r0 r1 r2 r3 r4 r5 r6 r7 r8 r9 true r11 r12 r13 σ))
          (cond ((byteAt uses i.toNat) == 99)
            (Hop (corralref1_row.T 9) (corralref1_row.T 9) (rr9 uses (IntKind.wrap .i64 (i + 1)) t140 t141 t142 t143 t144 t145 t146 t147 t148 t149 t1410 t1411 t1412 t1413 r0 r1 r2 r3 r4 r5 r6 r7 r8 r9 r10 true r12 r13 σ))
            (cond ((byteAt uses i.toNat) == 112)
              (Hop (corralref1_row.T 9) (corralref1_row.T 9) (rr9 uses (IntKind.wrap .i64 (i + 1)) t140 t141 t142 t143 t144 t145 t146 t147 t148 t149 t1410 t1411 t1412 t1413 r0 r1 r2 r3 r4 r5 r6 r7 r8 r9 r10 r11 r12 true σ))
              (Hop (corralref1_row.T 9) (corralref1_row.T 9) (rr9 uses (IntKind.wrap .i64 (i + 1)) t140 t141 t142 t143 t144 t145 t146 t147 t148 t149 t1410 t1411 t1412 t1413 r0 r1 r2 r3 r4 r5 r6 r7 r8 r9 r10 r11 r12 r13 σ))))))))
  (Hop (corralref1_row.T 22) (corralref1_row.T 22) (corralref1_row.j22 K t140 t141 t142 t143 t144 t145 t146 t147 t148 t149 t1410 t1411 t1412 t1413 r0 r1 r2 r3 r4 r5 r6 r7 r8 r9 r10 r11 r12 r13 σ))
def corralref1_row.l9 (K : Value → Store → Prop) : Nat → corralref1_row.R9
  | 0, _, _, _, _, _, _, _, _, _, _, _, _, _, _, _, _, _, _, _, _, _, _, _, _, _, _, _, _, _, _, _ => False
  | n + 1, uses, i, t140, t141, t142, t143, t144, t145, t146, t147, t148, t149, t1410, t1411, t1412, t1413, r0, r1, r2, r3, r4, r5, r6, r7, r8, r9, r10, r11, r12, r13, σ => corralref1_row.b9 K (corralref1_row.l9 K n) uses i t140 t141 t142 t143 t144 t145 t146 t147 t148 t149 t1410 t1411 t1412 t1413 r0 r1 r2 r3 r4 r5 r6 r7 r8 r9 r10 r11 r12 r13 σ
def corralref1_row.d8 (g : corralref1_row.R8) : List AV → List (List Value) → Store → Prop
  | [.v (.string uses)], [[.int .i64 t140, .string t141, .int .u32 t142, .int .u32 t143, .int .u32 t144, .bool t145, .bool t146, .int .u8 t147, .bool t148, .bool t149, .bool t1410, .bool t1411, .int .u32 t1412, .bool t1413], [.int .i64 r0, .string r1, .int .u32 r2, .int .u32 r3, .int .u32 r4, .bool r5, .bool r6, .int .u8 r7, .bool r8, .bool r9, .bool r10, .bool r11, .int .u32 r12, .bool r13]], σ => g uses t140 t141 t142 t143 t144 t145 t146 t147 t148 t149 t1410 t1411 t1412 t1413 r0 r1 r2 r3 r4 r5 r6 r7 r8 r9 r10 r11 r12 r13 σ
  | _, _, _ => False
def corralref1_row.S8 (K : Value → Store → Prop) (uses : ByteArray) (t140 : Int) (t141 : ByteArray) (t142 t143 t144 : Int) (t145 t146 : Bool) (t147 : Int) (t148 t149 t1410 t1411 : Bool) (t1412 : Int) (t1413 : Bool) (r0 : Int) (r1 : ByteArray) (r2 r3 r4 : Int) (r5 r6 : Bool) (r7 : Int) (r8 r9 r10 r11 : Bool) (r12 : Int) (r13 : Bool) (σ : Store) : Prop := SndF Pr F.corralref1_row corralref1_row.H corralref1_row.T K 8 [.v (.string uses)] [[.int .i64 t140, .string t141, .int .u32 t142, .int .u32 t143, .int .u32 t144, .bool t145, .bool t146, .int .u8 t147, .bool t148, .bool t149, .bool t1410, .bool t1411, .int .u32 t1412, .bool t1413], [.int .i64 r0, .string r1, .int .u32 r2, .int .u32 r3, .int .u32 r4, .bool r5, .bool r6, .int .u8 r7, .bool r8, .bool r9, .bool r10, .bool r11, .int .u32 r12, .bool r13]] σ
def corralref1_row.j8 (K : Value → Store → Prop) (uses : ByteArray) (t140 : Int) (t141 : ByteArray) (t142 t143 t144 : Int) (t145 t146 : Bool) (t147 : Int) (t148 t149 t1410 t1411 : Bool) (t1412 : Int) (t1413 : Bool) (r0 : Int) (r1 : ByteArray) (r2 r3 r4 : Int) (r5 r6 : Bool) (r7 : Int) (r8 r9 r10 r11 : Bool) (r12 : Int) (r13 : Bool) (σ : Store) : Prop :=
  Hop (corralref1_row.T 9) (corralref1_row.T 9) (∃ n : Nat, corralref1_row.l9 K n uses 0 t140 t141 t142 t143 t144 t145 t146 t147 t148 t149 t1410 t1411 t1412 t1413 r0 r1 r2 r3 r4 r5 r6 r7 r8 r9 r10 r11 r12 r13 σ)
def corralref1_row.d5 (g : corralref1_row.R5) : List AV → List (List Value) → Store → Prop
  | [.v (.int .i64 f7), .v (.string uses)], [[.int .i64 t140, .string t141, .int .u32 t142, .int .u32 t143, .int .u32 t144, .bool t145, .bool t146, .int .u8 t147, .bool t148, .bool t149, .bool t1410, .bool t1411, .int .u32 t1412, .bool t1413], [.int .i64 r0, .string r1, .int .u32 r2, .int .u32 r3, .int .u32 r4, .bool r5, .bool r6, .int .u8 r7, .bool r8, .bool r9, .bool r10, .bool r11, .int .u32 r12, .bool r13]], σ => g f7 uses t140 t141 t142 t143 t144 t145 t146 t147 t148 t149 t1410 t1411 t1412 t1413 r0 r1 r2 r3 r4 r5 r6 r7 r8 r9 r10 r11 r12 r13 σ
  | _, _, _ => False
def corralref1_row.S5 (K : Value → Store → Prop) (f7 : Int) (uses : ByteArray) (t140 : Int) (t141 : ByteArray) (t142 t143 t144 : Int) (t145 t146 : Bool) (t147 : Int) (t148 t149 t1410 t1411 : Bool) (t1412 : Int) (t1413 : Bool) (r0 : Int) (r1 : ByteArray) (r2 r3 r4 : Int) (r5 r6 : Bool) (r7 : Int) (r8 r9 r10 r11 : Bool) (r12 : Int) (r13 : Bool) (σ : Store) : Prop := SndF Pr F.corralref1_row corralref1_row.H corralref1_row.T K 5 [.v (.int .i64 f7), .v (.string uses)] [[.int .i64 t140, .string t141, .int .u32 t142, .int .u32 t143, .int .u32 t144, .bool t145, .bool t146, .int .u8 t147, .bool t148, .bool t149, .bool t1410, .bool t1411, .int .u32 t1412, .bool t1413], [.int .i64 r0, .string r1, .int .u32 r2, .int .u32 r3, .int .u32 r4, .bool r5, .bool r6, .int .u8 r7, .bool r8, .bool r9, .bool r10, .bool r11, .int .u32 r12, .bool r13]] σ
def corralref1_row.j5 (K : Value → Store → Prop) (f7 : Int) (uses : ByteArray) (t140 : Int) (t141 : ByteArray) (t142 t143 t144 : Int) (t145 t146 : Bool) (t147 : Int) (t148 t149 t1410 t1411 : Bool) (t1412 : Int) (t1413 : Bool) (r0 : Int) (r1 : ByteArray) (r2 r3 r4 : Int) (r5 r6 : Bool) (r7 : Int) (r8 r9 r10 r11 : Bool) (r12 : Int) (r13 : Bool) (σ : Store) : Prop :=
  cond (decide (f7 ≥ 0))
  (Hop (corralref1_row.T 8) (corralref1_row.T 8) (corralref1_row.j8 K uses t140 t141 t142 t143 t144 t145 t146 t147 t148 t149 t1410 t1411 t1412 t1413 r0 r1 r2 r3 (IntKind.wrap .u32 f7) r5 true r7 r8 r9 r10 r11 r12 r13 σ))
  (Hop (corralref1_row.T 8) (corralref1_row.T 8) (corralref1_row.j8 K uses t140 t141 t142 t143 t144 t145 t146 t147 t148 t149 t1410 t1411 t1412 t1413 r0 r1 r2 r3 r4 r5 r6 r7 r8 r9 r10 r11 r12 r13 σ))
def corralref1_row.m (K : Value → Store → Prop) (op : Int) (name : ByteArray) (opcode f3 f7 format : Int) (uses : ByteArray) (σ : Store) : Prop :=
  cond (decide (f3 ≥ 0))
  (Hop (corralref1_row.T 5) (corralref1_row.T 5) (corralref1_row.j5 K f7 uses 0 ByteArray.empty 0 0 0 false false 0 false false false false 0 false op name (IntKind.wrap .u32 opcode) (IntKind.wrap .u32 f3) 0 true false format false false false false 0 false σ))
  (Hop (corralref1_row.T 5) (corralref1_row.T 5) (corralref1_row.j5 K f7 uses 0 ByteArray.empty 0 0 0 false false 0 false false false false 0 false op name (IntKind.wrap .u32 opcode) 0 0 false false format false false false false 0 false σ))
theorem corralref1_row.d22_ok {K : Value → Store → Prop} {g : corralref1_row.R22} (hg : ∀ t140 t141 t142 t143 t144 t145 t146 t147 t148 t149 t1410 t1411 t1412 t1413 r0 r1 r2 r3 r4 r5 r6 r7 r8 r9 r10 r11 r12 r13 σ, g t140 t141 t142 t143 t144 t145 t146 t147 t148 t149 t1410 t1411 t1412 t1413 r0 r1 r2 r3 r4 r5 r6 r7 r8 r9 r10 r11 r12 r13 σ → corralref1_row.S22 K t140 t141 t142 t143 t144 t145 t146 t147 t148 t149 t1410 t1411 t1412 t1413 r0 r1 r2 r3 r4 r5 r6 r7 r8 r9 r10 r11 r12 r13 σ) (vs : List AV) (bs : List (List Value)) (σ : Store) (h : corralref1_row.d22 g vs bs σ) : SndF Pr F.corralref1_row corralref1_row.H corralref1_row.T K 22 vs bs σ := by
  unfold corralref1_row.d22 at h
  split at h
  · exact hg _ _ _ _ _ _ _ _ _ _ _ _ _ _ _ _ _ _ _ _ _ _ _ _ _ _ _ _ _ h
  · exact h.elim
theorem corralref1_row.d9_ok {K : Value → Store → Prop} {g : corralref1_row.R9} (hg : ∀ uses i t140 t141 t142 t143 t144 t145 t146 t147 t148 t149 t1410 t1411 t1412 t1413 r0 r1 r2 r3 r4 r5 r6 r7 r8 r9 r10 r11 r12 r13 σ, g uses i t140 t141 t142 t143 t144 t145 t146 t147 t148 t149 t1410 t1411 t1412 t1413 r0 r1 r2 r3 r4 r5 r6 r7 r8 r9 r10 r11 r12 r13 σ → corralref1_row.S9 K uses i t140 t141 t142 t143 t144 t145 t146 t147 t148 t149 t1410 t1411 t1412 t1413 r0 r1 r2 r3 r4 r5 r6 r7 r8 r9 r10 r11 r12 r13 σ) (vs : List AV) (bs : List (List Value)) (σ : Store) (h : corralref1_row.d9 g vs bs σ) : SndF Pr F.corralref1_row corralref1_row.H corralref1_row.T K 9 vs bs σ := by
  unfold corralref1_row.d9 at h
  split at h
  · exact hg _ _ _ _ _ _ _ _ _ _ _ _ _ _ _ _ _ _ _ _ _ _ _ _ _ _ _ _ _ _ _ h
  · exact h.elim
theorem corralref1_row.d8_ok {K : Value → Store → Prop} {g : corralref1_row.R8} (hg : ∀ uses t140 t141 t142 t143 t144 t145 t146 t147 t148 t149 t1410 t1411 t1412 t1413 r0 r1 r2 r3 r4 r5 r6 r7 r8 r9 r10 r11 r12 r13 σ, g uses t140 t141 t142 t143 t144 t145 t146 t147 t148 t149 t1410 t1411 t1412 t1413 r0 r1 r2 r3 r4 r5 r6 r7 r8 r9 r10 r11 r12 r13 σ → corralref1_row.S8 K uses t140 t141 t142 t143 t144 t145 t146 t147 t148 t149 t1410 t1411 t1412 t1413 r0 r1 r2 r3 r4 r5 r6 r7 r8 r9 r10 r11 r12 r13 σ) (vs : List AV) (bs : List (List Value)) (σ : Store) (h : corralref1_row.d8 g vs bs σ) : SndF Pr F.corralref1_row corralref1_row.H corralref1_row.T K 8 vs bs σ := by
  unfold corralref1_row.d8 at h
  split at h
  · exact hg _ _ _ _ _ _ _ _ _ _ _ _ _ _ _ _ _ _ _ _ _ _ _ _ _ _ _ _ _ _ h
  · exact h.elim
theorem corralref1_row.d5_ok {K : Value → Store → Prop} {g : corralref1_row.R5} (hg : ∀ f7 uses t140 t141 t142 t143 t144 t145 t146 t147 t148 t149 t1410 t1411 t1412 t1413 r0 r1 r2 r3 r4 r5 r6 r7 r8 r9 r10 r11 r12 r13 σ, g f7 uses t140 t141 t142 t143 t144 t145 t146 t147 t148 t149 t1410 t1411 t1412 t1413 r0 r1 r2 r3 r4 r5 r6 r7 r8 r9 r10 r11 r12 r13 σ → corralref1_row.S5 K f7 uses t140 t141 t142 t143 t144 t145 t146 t147 t148 t149 t1410 t1411 t1412 t1413 r0 r1 r2 r3 r4 r5 r6 r7 r8 r9 r10 r11 r12 r13 σ) (vs : List AV) (bs : List (List Value)) (σ : Store) (h : corralref1_row.d5 g vs bs σ) : SndF Pr F.corralref1_row corralref1_row.H corralref1_row.T K 5 vs bs σ := by
  unfold corralref1_row.d5 at h
  split at h
  · exact hg _ _ _ _ _ _ _ _ _ _ _ _ _ _ _ _ _ _ _ _ _ _ _ _ _ _ _ _ _ _ _ h
  · exact h.elim
noncomputable def corralref1_row.h22 (K : Value → Store → Prop) : Hand := hsel []
theorem corralref1_row.j22_eq (K : Value → Store → Prop) (t140 : Int) (t141 : ByteArray) (t142 t143 t144 : Int) (t145 t146 : Bool) (t147 : Int) (t148 t149 t1410 t1411 : Bool) (t1412 : Int) (t1413 : Bool) (r0 : Int) (r1 : ByteArray) (r2 r3 r4 : Int) (r5 r6 : Bool) (r7 : Int) (r8 r9 r10 r11 : Bool) (r12 : Int) (r13 : Bool) (σ : Store) : (seg Pr corralref1_row.H F.corralref1_row corralref1_row.T (corralref1_row.h22 K ) K (corralref1_row.T 22) (Ev.cutE corralref1_row.H 22 [] [[.int .i64 t140, .string t141, .int .u32 t142, .int .u32 t143, .int .u32 t144, .bool t145, .bool t146, .int .u8 t147, .bool t148, .bool t149, .bool t1410, .bool t1411, .int .u32 t1412, .bool t1413], [.int .i64 r0, .string r1, .int .u32 r2, .int .u32 r3, .int .u32 r4, .bool r5, .bool r6, .int .u8 r7, .bool r8, .bool r9, .bool r10, .bool r11, .int .u32 r12, .bool r13]]) σ) = corralref1_row.j22 K t140 t141 t142 t143 t144 t145 t146 t147 t148 t149 t1410 t1411 t1412 t1413 r0 r1 r2 r3 r4 r5 r6 r7 r8 r9 r10 r11 r12 r13 σ := by kernel_rfl
theorem corralref1_row.j22_ok (K : Value → Store → Prop) (t140 : Int) (t141 : ByteArray) (t142 t143 t144 : Int) (t145 t146 : Bool) (t147 : Int) (t148 t149 t1410 t1411 : Bool) (t1412 : Int) (t1413 : Bool) (r0 : Int) (r1 : ByteArray) (r2 r3 r4 : Int) (r5 r6 : Bool) (r7 : Int) (r8 r9 r10 r11 : Bool) (r12 : Int) (r13 : Bool) (σ : Store) (h : corralref1_row.j22 K t140 t141 t142 t143 t144 t145 t146 t147 t148 t149 t1410 t1411 t1412 t1413 r0 r1 r2 r3 r4 r5 r6 r7 r8 r9 r10 r11 r12 r13 σ) : corralref1_row.S22 K t140 t141 t142 t143 t144 t145 t146 t147 t148 t149 t1410 t1411 t1412 t1413 r0 r1 r2 r3 r4 r5 r6 r7 r8 r9 r10 r11 r12 r13 σ := by
  rw [← corralref1_row.j22_eq] at h
  exact seg_snd Pr_mixed (hsel_sound fun x hx => by
    cases hx) h
noncomputable def corralref1_row.h9 (K : Value → Store → Prop) (rr9 : corralref1_row.R9) : Hand := hsel [(22, corralref1_row.d22 (corralref1_row.j22 K )), (9, corralref1_row.d9 rr9)]
theorem corralref1_row.b9_eq (K : Value → Store → Prop) (rr9 : corralref1_row.R9) (uses : ByteArray) (i t140 : Int) (t141 : ByteArray) (t142 t143 t144 : Int) (t145 t146 : Bool) (t147 : Int) (t148 t149 t1410 t1411 : Bool) (t1412 : Int) (t1413 : Bool) (r0 : Int) (r1 : ByteArray) (r2 r3 r4 : Int) (r5 r6 : Bool) (r7 : Int) (r8 r9 r10 r11 : Bool) (r12 : Int) (r13 : Bool) (σ : Store) : (seg Pr corralref1_row.H F.corralref1_row corralref1_row.T (corralref1_row.h9 K rr9) K (corralref1_row.T 9) (Ev.cutE corralref1_row.H 9 [.v (.string uses), .v (.int .i64 i)] [[.int .i64 t140, .string t141, .int .u32 t142, .int .u32 t143, .int .u32 t144, .bool t145, .bool t146, .int .u8 t147, .bool t148, .bool t149, .bool t1410, .bool t1411, .int .u32 t1412, .bool t1413], [.int .i64 r0, .string r1, .int .u32 r2, .int .u32 r3, .int .u32 r4, .bool r5, .bool r6, .int .u8 r7, .bool r8, .bool r9, .bool r10, .bool r11, .int .u32 r12, .bool r13]]) σ) = corralref1_row.b9 K rr9 uses i t140 t141 t142 t143 t144 t145 t146 t147 t148 t149 t1410 t1411 t1412 t1413 r0 r1 r2 r3 r4 r5 r6 r7 r8 r9 r10 r11 r12 r13 σ := by kernel_rfl
theorem corralref1_row.b9_ok (K : Value → Store → Prop) (rr9 : corralref1_row.R9) (hh9 : ∀ uses i t140 t141 t142 t143 t144 t145 t146 t147 t148 t149 t1410 t1411 t1412 t1413 r0 r1 r2 r3 r4 r5 r6 r7 r8 r9 r10 r11 r12 r13 σ, rr9 uses i t140 t141 t142 t143 t144 t145 t146 t147 t148 t149 t1410 t1411 t1412 t1413 r0 r1 r2 r3 r4 r5 r6 r7 r8 r9 r10 r11 r12 r13 σ → corralref1_row.S9 K uses i t140 t141 t142 t143 t144 t145 t146 t147 t148 t149 t1410 t1411 t1412 t1413 r0 r1 r2 r3 r4 r5 r6 r7 r8 r9 r10 r11 r12 r13 σ) (uses : ByteArray) (i t140 : Int) (t141 : ByteArray) (t142 t143 t144 : Int) (t145 t146 : Bool) (t147 : Int) (t148 t149 t1410 t1411 : Bool) (t1412 : Int) (t1413 : Bool) (r0 : Int) (r1 : ByteArray) (r2 r3 r4 : Int) (r5 r6 : Bool) (r7 : Int) (r8 r9 r10 r11 : Bool) (r12 : Int) (r13 : Bool) (σ : Store) (h : corralref1_row.b9 K rr9 uses i t140 t141 t142 t143 t144 t145 t146 t147 t148 t149 t1410 t1411 t1412 t1413 r0 r1 r2 r3 r4 r5 r6 r7 r8 r9 r10 r11 r12 r13 σ) : corralref1_row.S9 K uses i t140 t141 t142 t143 t144 t145 t146 t147 t148 t149 t1410 t1411 t1412 t1413 r0 r1 r2 r3 r4 r5 r6 r7 r8 r9 r10 r11 r12 r13 σ := by
  rw [← corralref1_row.b9_eq] at h
  exact seg_snd Pr_mixed (hsel_sound fun x hx => by
    simp only [List.mem_cons, List.not_mem_nil, or_false] at hx
    rcases hx with rfl | rfl
    · exact corralref1_row.d22_ok fun _ _ _ _ _ _ _ _ _ _ _ _ _ _ _ _ _ _ _ _ _ _ _ _ _ _ _ _ _ h => corralref1_row.j22_ok K _ _ _ _ _ _ _ _ _ _ _ _ _ _ _ _ _ _ _ _ _ _ _ _ _ _ _ _ _ h
    · exact corralref1_row.d9_ok hh9) h
theorem corralref1_row.l9_ok (K : Value → Store → Prop) : ∀ (n : Nat) (uses : ByteArray) (i t140 : Int) (t141 : ByteArray) (t142 t143 t144 : Int) (t145 t146 : Bool) (t147 : Int) (t148 t149 t1410 t1411 : Bool) (t1412 : Int) (t1413 : Bool) (r0 : Int) (r1 : ByteArray) (r2 r3 r4 : Int) (r5 r6 : Bool) (r7 : Int) (r8 r9 r10 r11 : Bool) (r12 : Int) (r13 : Bool) (σ : Store), corralref1_row.l9 K n uses i t140 t141 t142 t143 t144 t145 t146 t147 t148 t149 t1410 t1411 t1412 t1413 r0 r1 r2 r3 r4 r5 r6 r7 r8 r9 r10 r11 r12 r13 σ → corralref1_row.S9 K uses i t140 t141 t142 t143 t144 t145 t146 t147 t148 t149 t1410 t1411 t1412 t1413 r0 r1 r2 r3 r4 r5 r6 r7 r8 r9 r10 r11 r12 r13 σ
  | 0, _, _, _, _, _, _, _, _, _, _, _, _, _, _, _, _, _, _, _, _, _, _, _, _, _, _, _, _, _, _, _, h => h.elim
  | n + 1, _, _, _, _, _, _, _, _, _, _, _, _, _, _, _, _, _, _, _, _, _, _, _, _, _, _, _, _, _, _, _, h => corralref1_row.b9_ok K (corralref1_row.l9 K n) (corralref1_row.l9_ok K n) _ _ _ _ _ _ _ _ _ _ _ _ _ _ _ _ _ _ _ _ _ _ _ _ _ _ _ _ _ _ _ h
noncomputable def corralref1_row.h8 (K : Value → Store → Prop) : Hand := hsel [(9, corralref1_row.d9 fun uses i t140 t141 t142 t143 t144 t145 t146 t147 t148 t149 t1410 t1411 t1412 t1413 r0 r1 r2 r3 r4 r5 r6 r7 r8 r9 r10 r11 r12 r13 σ => ∃ n : Nat, corralref1_row.l9 K n uses i t140 t141 t142 t143 t144 t145 t146 t147 t148 t149 t1410 t1411 t1412 t1413 r0 r1 r2 r3 r4 r5 r6 r7 r8 r9 r10 r11 r12 r13 σ)]
theorem corralref1_row.j8_eq (K : Value → Store → Prop) (uses : ByteArray) (t140 : Int) (t141 : ByteArray) (t142 t143 t144 : Int) (t145 t146 : Bool) (t147 : Int) (t148 t149 t1410 t1411 : Bool) (t1412 : Int) (t1413 : Bool) (r0 : Int) (r1 : ByteArray) (r2 r3 r4 : Int) (r5 r6 : Bool) (r7 : Int) (r8 r9 r10 r11 : Bool) (r12 : Int) (r13 : Bool) (σ : Store) : (seg Pr corralref1_row.H F.corralref1_row corralref1_row.T (corralref1_row.h8 K ) K (corralref1_row.T 8) (Ev.cutE corralref1_row.H 8 [.v (.string uses)] [[.int .i64 t140, .string t141, .int .u32 t142, .int .u32 t143, .int .u32 t144, .bool t145, .bool t146, .int .u8 t147, .bool t148, .bool t149, .bool t1410, .bool t1411, .int .u32 t1412, .bool t1413], [.int .i64 r0, .string r1, .int .u32 r2, .int .u32 r3, .int .u32 r4, .bool r5, .bool r6, .int .u8 r7, .bool r8, .bool r9, .bool r10, .bool r11, .int .u32 r12, .bool r13]]) σ) = corralref1_row.j8 K uses t140 t141 t142 t143 t144 t145 t146 t147 t148 t149 t1410 t1411 t1412 t1413 r0 r1 r2 r3 r4 r5 r6 r7 r8 r9 r10 r11 r12 r13 σ := by kernel_rfl
theorem corralref1_row.j8_ok (K : Value → Store → Prop) (uses : ByteArray) (t140 : Int) (t141 : ByteArray) (t142 t143 t144 : Int) (t145 t146 : Bool) (t147 : Int) (t148 t149 t1410 t1411 : Bool) (t1412 : Int) (t1413 : Bool) (r0 : Int) (r1 : ByteArray) (r2 r3 r4 : Int) (r5 r6 : Bool) (r7 : Int) (r8 r9 r10 r11 : Bool) (r12 : Int) (r13 : Bool) (σ : Store) (h : corralref1_row.j8 K uses t140 t141 t142 t143 t144 t145 t146 t147 t148 t149 t1410 t1411 t1412 t1413 r0 r1 r2 r3 r4 r5 r6 r7 r8 r9 r10 r11 r12 r13 σ) : corralref1_row.S8 K uses t140 t141 t142 t143 t144 t145 t146 t147 t148 t149 t1410 t1411 t1412 t1413 r0 r1 r2 r3 r4 r5 r6 r7 r8 r9 r10 r11 r12 r13 σ := by
  rw [← corralref1_row.j8_eq] at h
  exact seg_snd Pr_mixed (hsel_sound fun x hx => by
    simp only [List.mem_cons, List.not_mem_nil, or_false] at hx
    subst hx
    exact corralref1_row.d9_ok fun _ _ _ _ _ _ _ _ _ _ _ _ _ _ _ _ _ _ _ _ _ _ _ _ _ _ _ _ _ _ _ ⟨n, h⟩ => corralref1_row.l9_ok K n _ _ _ _ _ _ _ _ _ _ _ _ _ _ _ _ _ _ _ _ _ _ _ _ _ _ _ _ _ _ _ h) h
noncomputable def corralref1_row.h5 (K : Value → Store → Prop) : Hand := hsel [(8, corralref1_row.d8 (corralref1_row.j8 K ))]
theorem corralref1_row.j5_eq (K : Value → Store → Prop) (f7 : Int) (uses : ByteArray) (t140 : Int) (t141 : ByteArray) (t142 t143 t144 : Int) (t145 t146 : Bool) (t147 : Int) (t148 t149 t1410 t1411 : Bool) (t1412 : Int) (t1413 : Bool) (r0 : Int) (r1 : ByteArray) (r2 r3 r4 : Int) (r5 r6 : Bool) (r7 : Int) (r8 r9 r10 r11 : Bool) (r12 : Int) (r13 : Bool) (σ : Store) : (seg Pr corralref1_row.H F.corralref1_row corralref1_row.T (corralref1_row.h5 K ) K (corralref1_row.T 5) (Ev.cutE corralref1_row.H 5 [.v (.int .i64 f7), .v (.string uses)] [[.int .i64 t140, .string t141, .int .u32 t142, .int .u32 t143, .int .u32 t144, .bool t145, .bool t146, .int .u8 t147, .bool t148, .bool t149, .bool t1410, .bool t1411, .int .u32 t1412, .bool t1413], [.int .i64 r0, .string r1, .int .u32 r2, .int .u32 r3, .int .u32 r4, .bool r5, .bool r6, .int .u8 r7, .bool r8, .bool r9, .bool r10, .bool r11, .int .u32 r12, .bool r13]]) σ) = corralref1_row.j5 K f7 uses t140 t141 t142 t143 t144 t145 t146 t147 t148 t149 t1410 t1411 t1412 t1413 r0 r1 r2 r3 r4 r5 r6 r7 r8 r9 r10 r11 r12 r13 σ := by kernel_rfl
theorem corralref1_row.j5_ok (K : Value → Store → Prop) (f7 : Int) (uses : ByteArray) (t140 : Int) (t141 : ByteArray) (t142 t143 t144 : Int) (t145 t146 : Bool) (t147 : Int) (t148 t149 t1410 t1411 : Bool) (t1412 : Int) (t1413 : Bool) (r0 : Int) (r1 : ByteArray) (r2 r3 r4 : Int) (r5 r6 : Bool) (r7 : Int) (r8 r9 r10 r11 : Bool) (r12 : Int) (r13 : Bool) (σ : Store) (h : corralref1_row.j5 K f7 uses t140 t141 t142 t143 t144 t145 t146 t147 t148 t149 t1410 t1411 t1412 t1413 r0 r1 r2 r3 r4 r5 r6 r7 r8 r9 r10 r11 r12 r13 σ) : corralref1_row.S5 K f7 uses t140 t141 t142 t143 t144 t145 t146 t147 t148 t149 t1410 t1411 t1412 t1413 r0 r1 r2 r3 r4 r5 r6 r7 r8 r9 r10 r11 r12 r13 σ := by
  rw [← corralref1_row.j5_eq] at h
  exact seg_snd Pr_mixed (hsel_sound fun x hx => by
    simp only [List.mem_cons, List.not_mem_nil, or_false] at hx
    subst hx
    exact corralref1_row.d8_ok fun _ _ _ _ _ _ _ _ _ _ _ _ _ _ _ _ _ _ _ _ _ _ _ _ _ _ _ _ _ _ h => corralref1_row.j8_ok K _ _ _ _ _ _ _ _ _ _ _ _ _ _ _ _ _ _ _ _ _ _ _ _ _ _ _ _ _ _ h) h
noncomputable def corralref1_row.h (K : Value → Store → Prop) : Hand := hsel [(5, corralref1_row.d5 (corralref1_row.j5 K ))]
theorem corralref1_row.m_eq (K : Value → Store → Prop) (op : Int) (name : ByteArray) (opcode f3 f7 format : Int) (uses : ByteArray) (σ : Store) : (segF Pr corralref1_row.H F.corralref1_row corralref1_row.T (corralref1_row.h K) K [.int .i64 op, .string name, .int .i64 opcode, .int .i64 f3, .int .i64 f7, .int .u8 format, .string uses] σ) = corralref1_row.m K op name opcode f3 f7 format uses σ := by kernel_rfl
theorem corralref1_row.ok {K : Value → Store → Prop} {op : Int} {name : ByteArray} {opcode f3 f7 format : Int} {uses : ByteArray} {σ : Store} (h : corralref1_row.m K op name opcode f3 f7 format uses σ) : Spec Pr F.corralref1_row [.int .i64 op, .string name, .int .i64 opcode, .int .i64 f3, .int .i64 f7, .int .u8 format, .string uses] σ K := by
  rw [← corralref1_row.m_eq] at h
  exact segF_spec Pr_mixed (hsel_sound fun x hx => by
    simp only [List.mem_cons, List.not_mem_nil, or_false] at hx
    subst hx
    exact corralref1_row.d5_ok fun _ _ _ _ _ _ _ _ _ _ _ _ _ _ _ _ _ _ _ _ _ _ _ _ _ _ _ _ _ _ _ h => corralref1_row.j5_ok K _ _ _ _ _ _ _ _ _ _ _ _ _ _ _ _ _ _ _ _ _ _ _ _ _ _ _ _ _ _ _ h) h

/-! ### corral/corralref1.whole -/
def corralref1_whole.H : Hints := { esc := [], cuts := [] }
noncomputable def corralref1_whole.T : Nat → List Item := stk Pr F.corralref1_whole []
def corralref1_whole.m (K : Value → Store → Prop) (op : Int) (name : ByteArray) (w : Int) (σ : Store) : Prop :=
  K (.agg #[.int .i64 op, .string name, .int .u32 0, .int .u32 0, .int .u32 0, .bool false, .bool false, .int .u8 0, .bool false, .bool false, .bool false, .bool false, .int .u32 w, .bool false]) σ
noncomputable def corralref1_whole.h (K : Value → Store → Prop) : Hand := hsel []
theorem corralref1_whole.m_eq (K : Value → Store → Prop) (op : Int) (name : ByteArray) (w : Int) (σ : Store) : (segF Pr corralref1_whole.H F.corralref1_whole corralref1_whole.T (corralref1_whole.h K) K [.int .i64 op, .string name, .int .u32 w] σ) = corralref1_whole.m K op name w σ := by kernel_rfl
theorem corralref1_whole.ok {K : Value → Store → Prop} {op : Int} {name : ByteArray} {w : Int} {σ : Store} (h : corralref1_whole.m K op name w σ) : Spec Pr F.corralref1_whole [.int .i64 op, .string name, .int .u32 w] σ K := by
  rw [← corralref1_whole.m_eq] at h
  exact segF_spec Pr_mixed (hsel_sound fun x hx => by
    cases hx) h

/-! ### corral/corralref1.Of -/
def corralref1_Of.H : Hints := { esc := [], cuts := [(3, [0], [(2, 38)]), (5, [0, 4, 5], [(2, 38)]), (9, [], [(2, 38)])] }
noncomputable def corralref1_Of.T : Nat → List Item := stk Pr F.corralref1_Of [(3, [1, 1]), (5, [1, 1, 1, 0, 1, 0, 0]), (9, [1, 1, 1, 1])]
abbrev corralref1_Of.R9 : Type := Int → ByteArray → Int → Int → Int → Bool → Bool → Int → Bool → Bool → Bool → Bool → Int → Bool → Store → Prop
abbrev corralref1_Of.R5 : Type := Int → Option Addr → Nat → Nat → Int → Int → ByteArray → Int → Int → Int → Bool → Bool → Int → Bool → Bool → Bool → Bool → Int → Bool → Store → Prop
abbrev corralref1_Of.R3 : Type := Int → Int → ByteArray → Int → Int → Int → Bool → Bool → Int → Bool → Bool → Bool → Bool → Int → Bool → Store → Prop
def corralref1_Of.d9 (g : corralref1_Of.R9) : List AV → List (List Value) → Store → Prop
  | [], [[.int .i64 t20, .string t21, .int .u32 t22, .int .u32 t23, .int .u32 t24, .bool t25, .bool t26, .int .u8 t27, .bool t28, .bool t29, .bool t210, .bool t211, .int .u32 t212, .bool t213]], σ => g t20 t21 t22 t23 t24 t25 t26 t27 t28 t29 t210 t211 t212 t213 σ
  | _, _, _ => False
def corralref1_Of.S9 (K : Value → Store → Prop) (t20 : Int) (t21 : ByteArray) (t22 t23 t24 : Int) (t25 t26 : Bool) (t27 : Int) (t28 t29 t210 t211 : Bool) (t212 : Int) (t213 : Bool) (σ : Store) : Prop := SndF Pr F.corralref1_Of corralref1_Of.H corralref1_Of.T K 9 [] [[.int .i64 t20, .string t21, .int .u32 t22, .int .u32 t23, .int .u32 t24, .bool t25, .bool t26, .int .u8 t27, .bool t28, .bool t29, .bool t210, .bool t211, .int .u32 t212, .bool t213]] σ
def corralref1_Of.j9 (K : Value → Store → Prop) (t20 : Int) (t21 : ByteArray) (t22 t23 t24 : Int) (t25 t26 : Bool) (t27 : Int) (t28 t29 t210 t211 : Bool) (t212 : Int) (t213 : Bool) (σ : Store) : Prop :=
  K (.tuple #[.agg #[.int .i64 0, .string ByteArray.empty, .int .u32 0, .int .u32 0, .int .u32 0, .bool false, .bool false, .int .u8 0, .bool false, .bool false, .bool false, .bool false, .int .u32 0, .bool false], .bool false]) σ
def corralref1_Of.d5 (g : corralref1_Of.R5) : List AV → List (List Value) → Store → Prop
  | [.v (.int .i64 op), .v (.slice lA lN lC), .v (.int .i64 i)], [[.int .i64 t20, .string t21, .int .u32 t22, .int .u32 t23, .int .u32 t24, .bool t25, .bool t26, .int .u8 t27, .bool t28, .bool t29, .bool t210, .bool t211, .int .u32 t212, .bool t213]], σ => g op lA lN lC i t20 t21 t22 t23 t24 t25 t26 t27 t28 t29 t210 t211 t212 t213 σ
  | _, _, _ => False
def corralref1_Of.S5 (K : Value → Store → Prop) (op : Int) (lA : Option Addr) (lN lC : Nat) (i t20 : Int) (t21 : ByteArray) (t22 t23 t24 : Int) (t25 t26 : Bool) (t27 : Int) (t28 t29 t210 t211 : Bool) (t212 : Int) (t213 : Bool) (σ : Store) : Prop := SndF Pr F.corralref1_Of corralref1_Of.H corralref1_Of.T K 5 [.v (.int .i64 op), .v (.slice lA lN lC), .v (.int .i64 i)] [[.int .i64 t20, .string t21, .int .u32 t22, .int .u32 t23, .int .u32 t24, .bool t25, .bool t26, .int .u8 t27, .bool t28, .bool t29, .bool t210, .bool t211, .int .u32 t212, .bool t213]] σ
def corralref1_Of.b5 (K : Value → Store → Prop) (rr5 : corralref1_Of.R5) (op : Int) (lA : Option Addr) (lN lC : Nat) (i t20 : Int) (t21 : ByteArray) (t22 t23 t24 : Int) (t25 t26 : Bool) (t27 : Int) (t28 t29 t210 t211 : Bool) (t212 : Int) (t213 : Bool) (σ : Store) : Prop :=
  cond (decide (i < ((lN : Nat) : Int)))
  (Req (decide (0 ≤ i) && decide (i < ((lN : Nat) : Int))) (
      PtrNN lA fun t22B t22O =>
      ∃ t24_1 : Int, cellAt σ t22B (t22O + i.toNat * 14) = some (.int .i64 t24_1) ∧
      cond (t24_1 == op)
      (Req (decide (0 ≤ i) && decide (i < ((lN : Nat) : Int))) (
          PtrNN lA fun t29B t29O =>
          ∃ t300 : Int, ∃ t301 : ByteArray, ∃ t302 : Int, ∃ t303 : Int, ∃ t304 : Int, ∃ t305 : Bool, ∃ t306 : Bool, ∃ t307 : Int, ∃ t308 : Bool, ∃ t309 : Bool, ∃ t3010 : Bool, ∃ t3011 : Bool, ∃ t3012 : Int, ∃ t3013 : Bool, cellsAt σ t29B (t29O + i.toNat * 14) 14 = some [.int .i64 t300, .string t301, .int .u32 t302, .int .u32 t303, .int .u32 t304, .bool t305, .bool t306, .int .u8 t307, .bool t308, .bool t309, .bool t3010, .bool t3011, .int .u32 t3012, .bool t3013] ∧
          K (.tuple #[.agg #[.int .i64 t300, .string t301, .int .u32 t302, .int .u32 t303, .int .u32 t304, .bool t305, .bool t306, .int .u8 t307, .bool t308, .bool t309, .bool t3010, .bool t3011, .int .u32 t3012, .bool t3013], .bool true]) σ))
      (Hop (corralref1_Of.T 5) (corralref1_Of.T 5) (rr5 op lA lN lC (IntKind.wrap .i64 (i + 1)) t20 t21 t22 t23 t24 t25 t26 t27 t28 t29 t210 t211 t212 t213 σ))))
  (Hop (corralref1_Of.T 9) (corralref1_Of.T 9) (corralref1_Of.j9 K t20 t21 t22 t23 t24 t25 t26 t27 t28 t29 t210 t211 t212 t213 σ))
def corralref1_Of.l5 (K : Value → Store → Prop) : Nat → corralref1_Of.R5
  | 0, _, _, _, _, _, _, _, _, _, _, _, _, _, _, _, _, _, _, _, _ => False
  | n + 1, op, lA, lN, lC, i, t20, t21, t22, t23, t24, t25, t26, t27, t28, t29, t210, t211, t212, t213, σ => corralref1_Of.b5 K (corralref1_Of.l5 K n) op lA lN lC i t20 t21 t22 t23 t24 t25 t26 t27 t28 t29 t210 t211 t212 t213 σ
def corralref1_Of.d3 (g : corralref1_Of.R3) : List AV → List (List Value) → Store → Prop
  | [.v (.int .i64 op)], [[.int .i64 t20, .string t21, .int .u32 t22, .int .u32 t23, .int .u32 t24, .bool t25, .bool t26, .int .u8 t27, .bool t28, .bool t29, .bool t210, .bool t211, .int .u32 t212, .bool t213]], σ => g op t20 t21 t22 t23 t24 t25 t26 t27 t28 t29 t210 t211 t212 t213 σ
  | _, _, _ => False
def corralref1_Of.S3 (K : Value → Store → Prop) (op t20 : Int) (t21 : ByteArray) (t22 t23 t24 : Int) (t25 t26 : Bool) (t27 : Int) (t28 t29 t210 t211 : Bool) (t212 : Int) (t213 : Bool) (σ : Store) : Prop := SndF Pr F.corralref1_Of corralref1_Of.H corralref1_Of.T K 3 [.v (.int .i64 op)] [[.int .i64 t20, .string t21, .int .u32 t22, .int .u32 t23, .int .u32 t24, .bool t25, .bool t26, .int .u8 t27, .bool t28, .bool t29, .bool t210, .bool t211, .int .u32 t212, .bool t213]] σ
def corralref1_Of.j3 (K : Value → Store → Prop) (op t20 : Int) (t21 : ByteArray) (t22 t23 t24 : Int) (t25 t26 : Bool) (t27 : Int) (t28 t29 t210 t211 : Bool) (t212 : Int) (t213 : Bool) (σ : Store) : Prop :=
  Spec Pr F.corralref1_Rows [] σ fun v σ_ => ∃ t13A : Option Addr, ∃ t13N : Nat, ∃ t13C : Nat, v = .slice t13A t13N t13C ∧
  Hop (corralref1_Of.T 5) (corralref1_Of.T 5) (∃ n : Nat, corralref1_Of.l5 K n op t13A t13N t13C 0 t20 t21 t22 t23 t24 t25 t26 t27 t28 t29 t210 t211 t212 t213 σ_)
def corralref1_Of.m (K : Value → Store → Prop) (op : Int) (σ : Store) : Prop :=
  cond (decide (op < 1))
  (K (.tuple #[.agg #[.int .i64 0, .string ByteArray.empty, .int .u32 0, .int .u32 0, .int .u32 0, .bool false, .bool false, .int .u8 0, .bool false, .bool false, .bool false, .bool false, .int .u32 0, .bool false], .bool false]) σ)
  (cond (decide (op > 69))
    (K (.tuple #[.agg #[.int .i64 0, .string ByteArray.empty, .int .u32 0, .int .u32 0, .int .u32 0, .bool false, .bool false, .int .u8 0, .bool false, .bool false, .bool false, .bool false, .int .u32 0, .bool false], .bool false]) σ)
    (Hop (corralref1_Of.T 3) (corralref1_Of.T 3) (corralref1_Of.j3 K op 0 ByteArray.empty 0 0 0 false false 0 false false false false 0 false σ)))
theorem corralref1_Of.d9_ok {K : Value → Store → Prop} {g : corralref1_Of.R9} (hg : ∀ t20 t21 t22 t23 t24 t25 t26 t27 t28 t29 t210 t211 t212 t213 σ, g t20 t21 t22 t23 t24 t25 t26 t27 t28 t29 t210 t211 t212 t213 σ → corralref1_Of.S9 K t20 t21 t22 t23 t24 t25 t26 t27 t28 t29 t210 t211 t212 t213 σ) (vs : List AV) (bs : List (List Value)) (σ : Store) (h : corralref1_Of.d9 g vs bs σ) : SndF Pr F.corralref1_Of corralref1_Of.H corralref1_Of.T K 9 vs bs σ := by
  unfold corralref1_Of.d9 at h
  split at h
  · exact hg _ _ _ _ _ _ _ _ _ _ _ _ _ _ _ h
  · exact h.elim
theorem corralref1_Of.d5_ok {K : Value → Store → Prop} {g : corralref1_Of.R5} (hg : ∀ op lA lN lC i t20 t21 t22 t23 t24 t25 t26 t27 t28 t29 t210 t211 t212 t213 σ, g op lA lN lC i t20 t21 t22 t23 t24 t25 t26 t27 t28 t29 t210 t211 t212 t213 σ → corralref1_Of.S5 K op lA lN lC i t20 t21 t22 t23 t24 t25 t26 t27 t28 t29 t210 t211 t212 t213 σ) (vs : List AV) (bs : List (List Value)) (σ : Store) (h : corralref1_Of.d5 g vs bs σ) : SndF Pr F.corralref1_Of corralref1_Of.H corralref1_Of.T K 5 vs bs σ := by
  unfold corralref1_Of.d5 at h
  split at h
  · exact hg _ _ _ _ _ _ _ _ _ _ _ _ _ _ _ _ _ _ _ _ h
  · exact h.elim
theorem corralref1_Of.d3_ok {K : Value → Store → Prop} {g : corralref1_Of.R3} (hg : ∀ op t20 t21 t22 t23 t24 t25 t26 t27 t28 t29 t210 t211 t212 t213 σ, g op t20 t21 t22 t23 t24 t25 t26 t27 t28 t29 t210 t211 t212 t213 σ → corralref1_Of.S3 K op t20 t21 t22 t23 t24 t25 t26 t27 t28 t29 t210 t211 t212 t213 σ) (vs : List AV) (bs : List (List Value)) (σ : Store) (h : corralref1_Of.d3 g vs bs σ) : SndF Pr F.corralref1_Of corralref1_Of.H corralref1_Of.T K 3 vs bs σ := by
  unfold corralref1_Of.d3 at h
  split at h
  · exact hg _ _ _ _ _ _ _ _ _ _ _ _ _ _ _ _ h
  · exact h.elim
noncomputable def corralref1_Of.h9 (K : Value → Store → Prop) : Hand := hsel []
theorem corralref1_Of.j9_eq (K : Value → Store → Prop) (t20 : Int) (t21 : ByteArray) (t22 t23 t24 : Int) (t25 t26 : Bool) (t27 : Int) (t28 t29 t210 t211 : Bool) (t212 : Int) (t213 : Bool) (σ : Store) : (seg Pr corralref1_Of.H F.corralref1_Of corralref1_Of.T (corralref1_Of.h9 K ) K (corralref1_Of.T 9) (Ev.cutE corralref1_Of.H 9 [] [[.int .i64 t20, .string t21, .int .u32 t22, .int .u32 t23, .int .u32 t24, .bool t25, .bool t26, .int .u8 t27, .bool t28, .bool t29, .bool t210, .bool t211, .int .u32 t212, .bool t213]]) σ) = corralref1_Of.j9 K t20 t21 t22 t23 t24 t25 t26 t27 t28 t29 t210 t211 t212 t213 σ := by kernel_rfl
theorem corralref1_Of.j9_ok (K : Value → Store → Prop) (t20 : Int) (t21 : ByteArray) (t22 t23 t24 : Int) (t25 t26 : Bool) (t27 : Int) (t28 t29 t210 t211 : Bool) (t212 : Int) (t213 : Bool) (σ : Store) (h : corralref1_Of.j9 K t20 t21 t22 t23 t24 t25 t26 t27 t28 t29 t210 t211 t212 t213 σ) : corralref1_Of.S9 K t20 t21 t22 t23 t24 t25 t26 t27 t28 t29 t210 t211 t212 t213 σ := by
  rw [← corralref1_Of.j9_eq] at h
  exact seg_snd Pr_mixed (hsel_sound fun x hx => by
    cases hx) h
noncomputable def corralref1_Of.h5 (K : Value → Store → Prop) (rr5 : corralref1_Of.R5) : Hand := hsel [(9, corralref1_Of.d9 (corralref1_Of.j9 K )), (5, corralref1_Of.d5 rr5)]
theorem corralref1_Of.b5_eq (K : Value → Store → Prop) (rr5 : corralref1_Of.R5) (op : Int) (lA : Option Addr) (lN lC : Nat) (i t20 : Int) (t21 : ByteArray) (t22 t23 t24 : Int) (t25 t26 : Bool) (t27 : Int) (t28 t29 t210 t211 : Bool) (t212 : Int) (t213 : Bool) (σ : Store) : (seg Pr corralref1_Of.H F.corralref1_Of corralref1_Of.T (corralref1_Of.h5 K rr5) K (corralref1_Of.T 5) (Ev.cutE corralref1_Of.H 5 [.v (.int .i64 op), .v (.slice lA lN lC), .v (.int .i64 i)] [[.int .i64 t20, .string t21, .int .u32 t22, .int .u32 t23, .int .u32 t24, .bool t25, .bool t26, .int .u8 t27, .bool t28, .bool t29, .bool t210, .bool t211, .int .u32 t212, .bool t213]]) σ) = corralref1_Of.b5 K rr5 op lA lN lC i t20 t21 t22 t23 t24 t25 t26 t27 t28 t29 t210 t211 t212 t213 σ := by kernel_rfl
theorem corralref1_Of.b5_ok (K : Value → Store → Prop) (rr5 : corralref1_Of.R5) (hh5 : ∀ op lA lN lC i t20 t21 t22 t23 t24 t25 t26 t27 t28 t29 t210 t211 t212 t213 σ, rr5 op lA lN lC i t20 t21 t22 t23 t24 t25 t26 t27 t28 t29 t210 t211 t212 t213 σ → corralref1_Of.S5 K op lA lN lC i t20 t21 t22 t23 t24 t25 t26 t27 t28 t29 t210 t211 t212 t213 σ) (op : Int) (lA : Option Addr) (lN lC : Nat) (i t20 : Int) (t21 : ByteArray) (t22 t23 t24 : Int) (t25 t26 : Bool) (t27 : Int) (t28 t29 t210 t211 : Bool) (t212 : Int) (t213 : Bool) (σ : Store) (h : corralref1_Of.b5 K rr5 op lA lN lC i t20 t21 t22 t23 t24 t25 t26 t27 t28 t29 t210 t211 t212 t213 σ) : corralref1_Of.S5 K op lA lN lC i t20 t21 t22 t23 t24 t25 t26 t27 t28 t29 t210 t211 t212 t213 σ := by
  rw [← corralref1_Of.b5_eq] at h
  exact seg_snd Pr_mixed (hsel_sound fun x hx => by
    simp only [List.mem_cons, List.not_mem_nil, or_false] at hx
    rcases hx with rfl | rfl
    · exact corralref1_Of.d9_ok fun _ _ _ _ _ _ _ _ _ _ _ _ _ _ _ h => corralref1_Of.j9_ok K _ _ _ _ _ _ _ _ _ _ _ _ _ _ _ h
    · exact corralref1_Of.d5_ok hh5) h
theorem corralref1_Of.l5_ok (K : Value → Store → Prop) : ∀ (n : Nat) (op : Int) (lA : Option Addr) (lN lC : Nat) (i t20 : Int) (t21 : ByteArray) (t22 t23 t24 : Int) (t25 t26 : Bool) (t27 : Int) (t28 t29 t210 t211 : Bool) (t212 : Int) (t213 : Bool) (σ : Store), corralref1_Of.l5 K n op lA lN lC i t20 t21 t22 t23 t24 t25 t26 t27 t28 t29 t210 t211 t212 t213 σ → corralref1_Of.S5 K op lA lN lC i t20 t21 t22 t23 t24 t25 t26 t27 t28 t29 t210 t211 t212 t213 σ
  | 0, _, _, _, _, _, _, _, _, _, _, _, _, _, _, _, _, _, _, _, _, h => h.elim
  | n + 1, _, _, _, _, _, _, _, _, _, _, _, _, _, _, _, _, _, _, _, _, h => corralref1_Of.b5_ok K (corralref1_Of.l5 K n) (corralref1_Of.l5_ok K n) _ _ _ _ _ _ _ _ _ _ _ _ _ _ _ _ _ _ _ _ h
noncomputable def corralref1_Of.h3 (K : Value → Store → Prop) : Hand := hsel [(5, corralref1_Of.d5 fun op lA lN lC i t20 t21 t22 t23 t24 t25 t26 t27 t28 t29 t210 t211 t212 t213 σ => ∃ n : Nat, corralref1_Of.l5 K n op lA lN lC i t20 t21 t22 t23 t24 t25 t26 t27 t28 t29 t210 t211 t212 t213 σ)]
theorem corralref1_Of.j3_eq (K : Value → Store → Prop) (op t20 : Int) (t21 : ByteArray) (t22 t23 t24 : Int) (t25 t26 : Bool) (t27 : Int) (t28 t29 t210 t211 : Bool) (t212 : Int) (t213 : Bool) (σ : Store) : (seg Pr corralref1_Of.H F.corralref1_Of corralref1_Of.T (corralref1_Of.h3 K ) K (corralref1_Of.T 3) (Ev.cutE corralref1_Of.H 3 [.v (.int .i64 op)] [[.int .i64 t20, .string t21, .int .u32 t22, .int .u32 t23, .int .u32 t24, .bool t25, .bool t26, .int .u8 t27, .bool t28, .bool t29, .bool t210, .bool t211, .int .u32 t212, .bool t213]]) σ) = corralref1_Of.j3 K op t20 t21 t22 t23 t24 t25 t26 t27 t28 t29 t210 t211 t212 t213 σ := by kernel_rfl
theorem corralref1_Of.j3_ok (K : Value → Store → Prop) (op t20 : Int) (t21 : ByteArray) (t22 t23 t24 : Int) (t25 t26 : Bool) (t27 : Int) (t28 t29 t210 t211 : Bool) (t212 : Int) (t213 : Bool) (σ : Store) (h : corralref1_Of.j3 K op t20 t21 t22 t23 t24 t25 t26 t27 t28 t29 t210 t211 t212 t213 σ) : corralref1_Of.S3 K op t20 t21 t22 t23 t24 t25 t26 t27 t28 t29 t210 t211 t212 t213 σ := by
  rw [← corralref1_Of.j3_eq] at h
  exact seg_snd Pr_mixed (hsel_sound fun x hx => by
    simp only [List.mem_cons, List.not_mem_nil, or_false] at hx
    subst hx
    exact corralref1_Of.d5_ok fun _ _ _ _ _ _ _ _ _ _ _ _ _ _ _ _ _ _ _ _ ⟨n, h⟩ => corralref1_Of.l5_ok K n _ _ _ _ _ _ _ _ _ _ _ _ _ _ _ _ _ _ _ _ h) h
noncomputable def corralref1_Of.h (K : Value → Store → Prop) : Hand := hsel [(3, corralref1_Of.d3 (corralref1_Of.j3 K ))]
theorem corralref1_Of.m_eq (K : Value → Store → Prop) (op : Int) (σ : Store) : (segF Pr corralref1_Of.H F.corralref1_Of corralref1_Of.T (corralref1_Of.h K) K [.int .i64 op] σ) = corralref1_Of.m K op σ := by kernel_rfl
theorem corralref1_Of.ok {K : Value → Store → Prop} {op : Int} {σ : Store} (h : corralref1_Of.m K op σ) : Spec Pr F.corralref1_Of [.int .i64 op] σ K := by
  rw [← corralref1_Of.m_eq] at h
  exact segF_spec Pr_mixed (hsel_sound fun x hx => by
    simp only [List.mem_cons, List.not_mem_nil, or_false] at hx
    subst hx
    exact corralref1_Of.d3_ok fun _ _ _ _ _ _ _ _ _ _ _ _ _ _ _ _ h => corralref1_Of.j3_ok K _ _ _ _ _ _ _ _ _ _ _ _ _ _ _ _ h) h

/-! ### corral/corralref1.word -/
def corralref1_word.H : Hints := { esc := [], cuts := [(8, [5], [(2, 38), (3, 24)]), (11, [5], [(2, 38), (3, 24)])] }
noncomputable def corralref1_word.T : Nat → List Item := stk Pr F.corralref1_word [(8, [1, 1, 1, 0, 1, 0, 1, 1]), (11, [1, 1, 1, 1])]
abbrev corralref1_word.R11 : Type := Int → Int → ByteArray → Int → Int → Int → Bool → Bool → Int → Bool → Bool → Bool → Bool → Int → Bool → Int → Int → Int → Int → Int → Int → Bool → Bool → Store → Prop
abbrev corralref1_word.R8 : Type := Int → Int → ByteArray → Int → Int → Int → Bool → Bool → Int → Bool → Bool → Bool → Bool → Int → Bool → Int → Int → Int → Int → Int → Int → Bool → Bool → Store → Prop
def corralref1_word.d11 (g : corralref1_word.R11) : List AV → List (List Value) → Store → Prop
  | [.v (.int .u32 w)], [[.int .i64 r0, .string r1, .int .u32 r2, .int .u32 r3, .int .u32 r4, .bool r5, .bool r6, .int .u8 r7, .bool r8, .bool r9, .bool r10, .bool r11, .int .u32 r12, .bool r13], [.int .i64 i0, .int .i64 i1, .int .i64 i2, .int .i64 i3, .int .i64 i4, .int .u32 i5, .bool i6, .bool i7]], σ => g w r0 r1 r2 r3 r4 r5 r6 r7 r8 r9 r10 r11 r12 r13 i0 i1 i2 i3 i4 i5 i6 i7 σ
  | _, _, _ => False
def corralref1_word.S11 (K : Value → Store → Prop) (w r0 : Int) (r1 : ByteArray) (r2 r3 r4 : Int) (r5 r6 : Bool) (r7 : Int) (r8 r9 r10 r11 : Bool) (r12 : Int) (r13 : Bool) (i0 i1 i2 i3 i4 i5 : Int) (i6 i7 : Bool) (σ : Store) : Prop := SndF Pr F.corralref1_word corralref1_word.H corralref1_word.T K 11 [.v (.int .u32 w)] [[.int .i64 r0, .string r1, .int .u32 r2, .int .u32 r3, .int .u32 r4, .bool r5, .bool r6, .int .u8 r7, .bool r8, .bool r9, .bool r10, .bool r11, .int .u32 r12, .bool r13], [.int .i64 i0, .int .i64 i1, .int .i64 i2, .int .i64 i3, .int .i64 i4, .int .u32 i5, .bool i6, .bool i7]] σ
def corralref1_word.j11 (K : Value → Store → Prop) (w r0 : Int) (r1 : ByteArray) (r2 r3 r4 : Int) (r5 r6 : Bool) (r7 : Int) (r8 r9 r10 r11 : Bool) (r12 : Int) (r13 : Bool) (i0 i1 i2 i3 i4 i5 : Int) (i6 i7 : Bool) (σ : Store) : Prop :=
  Spec Pr F.corralref1_lay [.int .u8 r7, .int .u32 i5] σ fun v σ_ => ∃ t44a : Int, ∃ t44b : Bool, v = .tuple #[.int .u32 t44a, .bool t44b] ∧
  K (.int .u32 (orI .u32 (orI .u32 (orI .u32 (orI .u32 (orI .u32 w t44a) (shlI .u32 (IntKind.wrap .u32 i1) 7)) (shlI .u32 (IntKind.wrap .u32 i2) 15)) (shlI .u32 (IntKind.wrap .u32 i3) 20)) (shlI .u32 (IntKind.wrap .u32 i4) 20))) σ_
def corralref1_word.d8 (g : corralref1_word.R8) : List AV → List (List Value) → Store → Prop
  | [.v (.int .u32 w)], [[.int .i64 r0, .string r1, .int .u32 r2, .int .u32 r3, .int .u32 r4, .bool r5, .bool r6, .int .u8 r7, .bool r8, .bool r9, .bool r10, .bool r11, .int .u32 r12, .bool r13], [.int .i64 i0, .int .i64 i1, .int .i64 i2, .int .i64 i3, .int .i64 i4, .int .u32 i5, .bool i6, .bool i7]], σ => g w r0 r1 r2 r3 r4 r5 r6 r7 r8 r9 r10 r11 r12 r13 i0 i1 i2 i3 i4 i5 i6 i7 σ
  | _, _, _ => False
def corralref1_word.S8 (K : Value → Store → Prop) (w r0 : Int) (r1 : ByteArray) (r2 r3 r4 : Int) (r5 r6 : Bool) (r7 : Int) (r8 r9 r10 r11 : Bool) (r12 : Int) (r13 : Bool) (i0 i1 i2 i3 i4 i5 : Int) (i6 i7 : Bool) (σ : Store) : Prop := SndF Pr F.corralref1_word corralref1_word.H corralref1_word.T K 8 [.v (.int .u32 w)] [[.int .i64 r0, .string r1, .int .u32 r2, .int .u32 r3, .int .u32 r4, .bool r5, .bool r6, .int .u8 r7, .bool r8, .bool r9, .bool r10, .bool r11, .int .u32 r12, .bool r13], [.int .i64 i0, .int .i64 i1, .int .i64 i2, .int .i64 i3, .int .i64 i4, .int .u32 i5, .bool i6, .bool i7]] σ
def corralref1_word.j8 (K : Value → Store → Prop) (w r0 : Int) (r1 : ByteArray) (r2 r3 r4 : Int) (r5 r6 : Bool) (r7 : Int) (r8 r9 r10 r11 : Bool) (r12 : Int) (r13 : Bool) (i0 i1 i2 i3 i4 i5 : Int) (i6 i7 : Bool) (σ : Store) : Prop :=
  cond i7
  (Hop (corralref1_word.T 11) (corralref1_word.T 11) (corralref1_word.j11 K (orI .u32 w 33554432) r0 r1 r2 r3 r4 r5 r6 r7 r8 r9 r10 r11 r12 r13 i0 i1 i2 i3 i4 i5 i6 i7 σ))
  (Hop (corralref1_word.T 11) (corralref1_word.T 11) (corralref1_word.j11 K w r0 r1 r2 r3 r4 r5 r6 r7 r8 r9 r10 r11 r12 r13 i0 i1 i2 i3 i4 i5 i6 i7 σ))
def corralref1_word.m (K : Value → Store → Prop) (r0 : Int) (r1 : ByteArray) (r2 r3 r4 : Int) (r5 r6 : Bool) (r7 : Int) (r8 r9 r10 r11 : Bool) (r12 : Int) (r13 : Bool) (i0 i1 i2 i3 i4 i5 : Int) (i6 i7 : Bool) (σ : Store) : Prop :=
  cond (r12 != 0)
  (K (.int .u32 r12) σ)
  (cond r13
    (cond i6
      (Hop (corralref1_word.T 8) (corralref1_word.T 8) (corralref1_word.j8 K (orI .u32 (orI .u32 (orI .u32 r2 (shlI .u32 r3 12)) (shlI .u32 r4 27)) 67108864) r0 r1 r2 r3 r4 r5 r6 r7 r8 r9 r10 r11 r12 r13 i0 i1 i2 i3 i4 i5 i6 i7 σ))
      (Hop (corralref1_word.T 8) (corralref1_word.T 8) (corralref1_word.j8 K (orI .u32 (orI .u32 r2 (shlI .u32 r3 12)) (shlI .u32 r4 27)) r0 r1 r2 r3 r4 r5 r6 r7 r8 r9 r10 r11 r12 r13 i0 i1 i2 i3 i4 i5 i6 i7 σ)))
    (Hop (corralref1_word.T 11) (corralref1_word.T 11) (corralref1_word.j11 K (orI .u32 (orI .u32 r2 (shlI .u32 r3 12)) (shlI .u32 r4 25)) r0 r1 r2 r3 r4 r5 r6 r7 r8 r9 r10 r11 r12 r13 i0 i1 i2 i3 i4 i5 i6 i7 σ)))
theorem corralref1_word.d11_ok {K : Value → Store → Prop} {g : corralref1_word.R11} (hg : ∀ w r0 r1 r2 r3 r4 r5 r6 r7 r8 r9 r10 r11 r12 r13 i0 i1 i2 i3 i4 i5 i6 i7 σ, g w r0 r1 r2 r3 r4 r5 r6 r7 r8 r9 r10 r11 r12 r13 i0 i1 i2 i3 i4 i5 i6 i7 σ → corralref1_word.S11 K w r0 r1 r2 r3 r4 r5 r6 r7 r8 r9 r10 r11 r12 r13 i0 i1 i2 i3 i4 i5 i6 i7 σ) (vs : List AV) (bs : List (List Value)) (σ : Store) (h : corralref1_word.d11 g vs bs σ) : SndF Pr F.corralref1_word corralref1_word.H corralref1_word.T K 11 vs bs σ := by
  unfold corralref1_word.d11 at h
  split at h
  · exact hg _ _ _ _ _ _ _ _ _ _ _ _ _ _ _ _ _ _ _ _ _ _ _ _ h
  · exact h.elim
theorem corralref1_word.d8_ok {K : Value → Store → Prop} {g : corralref1_word.R8} (hg : ∀ w r0 r1 r2 r3 r4 r5 r6 r7 r8 r9 r10 r11 r12 r13 i0 i1 i2 i3 i4 i5 i6 i7 σ, g w r0 r1 r2 r3 r4 r5 r6 r7 r8 r9 r10 r11 r12 r13 i0 i1 i2 i3 i4 i5 i6 i7 σ → corralref1_word.S8 K w r0 r1 r2 r3 r4 r5 r6 r7 r8 r9 r10 r11 r12 r13 i0 i1 i2 i3 i4 i5 i6 i7 σ) (vs : List AV) (bs : List (List Value)) (σ : Store) (h : corralref1_word.d8 g vs bs σ) : SndF Pr F.corralref1_word corralref1_word.H corralref1_word.T K 8 vs bs σ := by
  unfold corralref1_word.d8 at h
  split at h
  · exact hg _ _ _ _ _ _ _ _ _ _ _ _ _ _ _ _ _ _ _ _ _ _ _ _ h
  · exact h.elim
noncomputable def corralref1_word.h11 (K : Value → Store → Prop) : Hand := hsel []
theorem corralref1_word.j11_eq (K : Value → Store → Prop) (w r0 : Int) (r1 : ByteArray) (r2 r3 r4 : Int) (r5 r6 : Bool) (r7 : Int) (r8 r9 r10 r11 : Bool) (r12 : Int) (r13 : Bool) (i0 i1 i2 i3 i4 i5 : Int) (i6 i7 : Bool) (σ : Store) : (seg Pr corralref1_word.H F.corralref1_word corralref1_word.T (corralref1_word.h11 K ) K (corralref1_word.T 11) (Ev.cutE corralref1_word.H 11 [.v (.int .u32 w)] [[.int .i64 r0, .string r1, .int .u32 r2, .int .u32 r3, .int .u32 r4, .bool r5, .bool r6, .int .u8 r7, .bool r8, .bool r9, .bool r10, .bool r11, .int .u32 r12, .bool r13], [.int .i64 i0, .int .i64 i1, .int .i64 i2, .int .i64 i3, .int .i64 i4, .int .u32 i5, .bool i6, .bool i7]]) σ) = corralref1_word.j11 K w r0 r1 r2 r3 r4 r5 r6 r7 r8 r9 r10 r11 r12 r13 i0 i1 i2 i3 i4 i5 i6 i7 σ := by kernel_rfl
theorem corralref1_word.j11_ok (K : Value → Store → Prop) (w r0 : Int) (r1 : ByteArray) (r2 r3 r4 : Int) (r5 r6 : Bool) (r7 : Int) (r8 r9 r10 r11 : Bool) (r12 : Int) (r13 : Bool) (i0 i1 i2 i3 i4 i5 : Int) (i6 i7 : Bool) (σ : Store) (h : corralref1_word.j11 K w r0 r1 r2 r3 r4 r5 r6 r7 r8 r9 r10 r11 r12 r13 i0 i1 i2 i3 i4 i5 i6 i7 σ) : corralref1_word.S11 K w r0 r1 r2 r3 r4 r5 r6 r7 r8 r9 r10 r11 r12 r13 i0 i1 i2 i3 i4 i5 i6 i7 σ := by
  rw [← corralref1_word.j11_eq] at h
  exact seg_snd Pr_mixed (hsel_sound fun x hx => by
    cases hx) h
noncomputable def corralref1_word.h8 (K : Value → Store → Prop) : Hand := hsel [(11, corralref1_word.d11 (corralref1_word.j11 K ))]
theorem corralref1_word.j8_eq (K : Value → Store → Prop) (w r0 : Int) (r1 : ByteArray) (r2 r3 r4 : Int) (r5 r6 : Bool) (r7 : Int) (r8 r9 r10 r11 : Bool) (r12 : Int) (r13 : Bool) (i0 i1 i2 i3 i4 i5 : Int) (i6 i7 : Bool) (σ : Store) : (seg Pr corralref1_word.H F.corralref1_word corralref1_word.T (corralref1_word.h8 K ) K (corralref1_word.T 8) (Ev.cutE corralref1_word.H 8 [.v (.int .u32 w)] [[.int .i64 r0, .string r1, .int .u32 r2, .int .u32 r3, .int .u32 r4, .bool r5, .bool r6, .int .u8 r7, .bool r8, .bool r9, .bool r10, .bool r11, .int .u32 r12, .bool r13], [.int .i64 i0, .int .i64 i1, .int .i64 i2, .int .i64 i3, .int .i64 i4, .int .u32 i5, .bool i6, .bool i7]]) σ) = corralref1_word.j8 K w r0 r1 r2 r3 r4 r5 r6 r7 r8 r9 r10 r11 r12 r13 i0 i1 i2 i3 i4 i5 i6 i7 σ := by kernel_rfl
theorem corralref1_word.j8_ok (K : Value → Store → Prop) (w r0 : Int) (r1 : ByteArray) (r2 r3 r4 : Int) (r5 r6 : Bool) (r7 : Int) (r8 r9 r10 r11 : Bool) (r12 : Int) (r13 : Bool) (i0 i1 i2 i3 i4 i5 : Int) (i6 i7 : Bool) (σ : Store) (h : corralref1_word.j8 K w r0 r1 r2 r3 r4 r5 r6 r7 r8 r9 r10 r11 r12 r13 i0 i1 i2 i3 i4 i5 i6 i7 σ) : corralref1_word.S8 K w r0 r1 r2 r3 r4 r5 r6 r7 r8 r9 r10 r11 r12 r13 i0 i1 i2 i3 i4 i5 i6 i7 σ := by
  rw [← corralref1_word.j8_eq] at h
  exact seg_snd Pr_mixed (hsel_sound fun x hx => by
    simp only [List.mem_cons, List.not_mem_nil, or_false] at hx
    subst hx
    exact corralref1_word.d11_ok fun _ _ _ _ _ _ _ _ _ _ _ _ _ _ _ _ _ _ _ _ _ _ _ _ h => corralref1_word.j11_ok K _ _ _ _ _ _ _ _ _ _ _ _ _ _ _ _ _ _ _ _ _ _ _ _ h) h
noncomputable def corralref1_word.h (K : Value → Store → Prop) : Hand := hsel [(8, corralref1_word.d8 (corralref1_word.j8 K )), (11, corralref1_word.d11 (corralref1_word.j11 K ))]
theorem corralref1_word.m_eq (K : Value → Store → Prop) (r0 : Int) (r1 : ByteArray) (r2 r3 r4 : Int) (r5 r6 : Bool) (r7 : Int) (r8 r9 r10 r11 : Bool) (r12 : Int) (r13 : Bool) (i0 i1 i2 i3 i4 i5 : Int) (i6 i7 : Bool) (σ : Store) : (segF Pr corralref1_word.H F.corralref1_word corralref1_word.T (corralref1_word.h K) K [.agg #[.int .i64 r0, .string r1, .int .u32 r2, .int .u32 r3, .int .u32 r4, .bool r5, .bool r6, .int .u8 r7, .bool r8, .bool r9, .bool r10, .bool r11, .int .u32 r12, .bool r13], .agg #[.int .i64 i0, .int .i64 i1, .int .i64 i2, .int .i64 i3, .int .i64 i4, .int .u32 i5, .bool i6, .bool i7]] σ) = corralref1_word.m K r0 r1 r2 r3 r4 r5 r6 r7 r8 r9 r10 r11 r12 r13 i0 i1 i2 i3 i4 i5 i6 i7 σ := by kernel_rfl
theorem corralref1_word.ok {K : Value → Store → Prop} {r0 : Int} {r1 : ByteArray} {r2 r3 r4 : Int} {r5 r6 : Bool} {r7 : Int} {r8 r9 r10 r11 : Bool} {r12 : Int} {r13 : Bool} {i0 i1 i2 i3 i4 i5 : Int} {i6 i7 : Bool} {σ : Store} (h : corralref1_word.m K r0 r1 r2 r3 r4 r5 r6 r7 r8 r9 r10 r11 r12 r13 i0 i1 i2 i3 i4 i5 i6 i7 σ) : Spec Pr F.corralref1_word [.agg #[.int .i64 r0, .string r1, .int .u32 r2, .int .u32 r3, .int .u32 r4, .bool r5, .bool r6, .int .u8 r7, .bool r8, .bool r9, .bool r10, .bool r11, .int .u32 r12, .bool r13], .agg #[.int .i64 i0, .int .i64 i1, .int .i64 i2, .int .i64 i3, .int .i64 i4, .int .u32 i5, .bool i6, .bool i7]] σ K := by
  rw [← corralref1_word.m_eq] at h
  exact segF_spec Pr_mixed (hsel_sound fun x hx => by
    simp only [List.mem_cons, List.not_mem_nil, or_false] at hx
    rcases hx with rfl | rfl
    · exact corralref1_word.d8_ok fun _ _ _ _ _ _ _ _ _ _ _ _ _ _ _ _ _ _ _ _ _ _ _ _ h => corralref1_word.j8_ok K _ _ _ _ _ _ _ _ _ _ _ _ _ _ _ _ _ _ _ _ _ _ _ _ h
    · exact corralref1_word.d11_ok fun _ _ _ _ _ _ _ _ _ _ _ _ _ _ _ _ _ _ _ _ _ _ _ _ h => corralref1_word.j11_ok K _ _ _ _ _ _ _ _ _ _ _ _ _ _ _ _ _ _ _ _ _ _ _ _ h) h

/-! ### corral/corralref1.Kind -/
def corralref1_Kind.H : Hints := { esc := [], cuts := [(2, [0, 3], []), (4, [0, 26], []), (6, [0, 33], []), (8, [0, 40], []), (10, [0, 51], []), (12, [0, 58], [])] }
noncomputable def corralref1_Kind.T : Nat → List Item := stk Pr F.corralref1_Kind [(2, [1, 0, 0, 1]), (4, [1, 0, 0, 1, 1, 1]), (6, [1, 0, 0, 1, 1, 1, 1, 1]), (8, [1, 0, 0, 1, 1, 1, 1, 1, 1, 1]), (10, [1, 0, 0, 1, 1, 1, 1, 1, 1, 1, 1, 1]), (12, [1, 0, 0, 1, 1, 1, 1, 1, 1, 1, 1, 1, 1, 1])]
abbrev corralref1_Kind.R12 : Type := Int → Bool → Store → Prop
abbrev corralref1_Kind.R10 : Type := Int → Bool → Store → Prop
abbrev corralref1_Kind.R8 : Type := Int → Bool → Store → Prop
abbrev corralref1_Kind.R6 : Type := Int → Bool → Store → Prop
abbrev corralref1_Kind.R4 : Type := Int → Bool → Store → Prop
abbrev corralref1_Kind.R2 : Type := Int → Bool → Store → Prop
def corralref1_Kind.d12 (g : corralref1_Kind.R12) : List AV → List (List Value) → Store → Prop
  | [.v (.int .i64 op), .v (.bool t58)], [], σ => g op t58 σ
  | _, _, _ => False
def corralref1_Kind.S12 (K : Value → Store → Prop) (op : Int) (t58 : Bool) (σ : Store) : Prop := SndF Pr F.corralref1_Kind corralref1_Kind.H corralref1_Kind.T K 12 [.v (.int .i64 op), .v (.bool t58)] [] σ
def corralref1_Kind.j12 (K : Value → Store → Prop) (op : Int) (t58 : Bool) (σ : Store) : Prop :=
  cond t58
  (K (.int .i64 6) σ)
  (cond (decide (op ≥ 1))
    (cond (decide (op ≤ 69))
      (K (.int .i64 7) σ)
      (K (.int .i64 0) σ))
    (K (.int .i64 0) σ))
def corralref1_Kind.d10 (g : corralref1_Kind.R10) : List AV → List (List Value) → Store → Prop
  | [.v (.int .i64 op), .v (.bool t51)], [], σ => g op t51 σ
  | _, _, _ => False
def corralref1_Kind.S10 (K : Value → Store → Prop) (op : Int) (t51 : Bool) (σ : Store) : Prop := SndF Pr F.corralref1_Kind corralref1_Kind.H corralref1_Kind.T K 10 [.v (.int .i64 op), .v (.bool t51)] [] σ
def corralref1_Kind.j10 (K : Value → Store → Prop) (op : Int) (t51 : Bool) (σ : Store) : Prop :=
  cond t51
  (K (.int .i64 5) σ)
  (cond (decide (op ≥ 60))
    (Hop (corralref1_Kind.T 12) (corralref1_Kind.T 12) (corralref1_Kind.j12 K op (decide (op ≤ 69)) σ))
    (Hop (corralref1_Kind.T 12) (corralref1_Kind.T 12) (corralref1_Kind.j12 K op false σ)))
def corralref1_Kind.d8 (g : corralref1_Kind.R8) : List AV → List (List Value) → Store → Prop
  | [.v (.int .i64 op), .v (.bool t40)], [], σ => g op t40 σ
  | _, _, _ => False
def corralref1_Kind.S8 (K : Value → Store → Prop) (op : Int) (t40 : Bool) (σ : Store) : Prop := SndF Pr F.corralref1_Kind corralref1_Kind.H corralref1_Kind.T K 8 [.v (.int .i64 op), .v (.bool t40)] [] σ
def corralref1_Kind.j8 (K : Value → Store → Prop) (op : Int) (t40 : Bool) (σ : Store) : Prop :=
  cond t40
  (K (.int .i64 4) σ)
  (cond (decide (op ≥ 16))
    (Hop (corralref1_Kind.T 10) (corralref1_Kind.T 10) (corralref1_Kind.j10 K op (decide (op ≤ 18)) σ))
    (Hop (corralref1_Kind.T 10) (corralref1_Kind.T 10) (corralref1_Kind.j10 K op false σ)))
def corralref1_Kind.d6 (g : corralref1_Kind.R6) : List AV → List (List Value) → Store → Prop
  | [.v (.int .i64 op), .v (.bool t33)], [], σ => g op t33 σ
  | _, _, _ => False
def corralref1_Kind.S6 (K : Value → Store → Prop) (op : Int) (t33 : Bool) (σ : Store) : Prop := SndF Pr F.corralref1_Kind corralref1_Kind.H corralref1_Kind.T K 6 [.v (.int .i64 op), .v (.bool t33)] [] σ
def corralref1_Kind.j6 (K : Value → Store → Prop) (op : Int) (t33 : Bool) (σ : Store) : Prop :=
  cond t33
  (K (.int .i64 3) σ)
  (cond (decide (op ≥ 11))
    (cond (decide (op ≤ 15))
      (Hop (corralref1_Kind.T 8) (corralref1_Kind.T 8) (corralref1_Kind.j8 K op true σ))
      (Hop (corralref1_Kind.T 8) (corralref1_Kind.T 8) (corralref1_Kind.j8 K op (op == 59) σ)))
    (Hop (corralref1_Kind.T 8) (corralref1_Kind.T 8) (corralref1_Kind.j8 K op (op == 59) σ)))
def corralref1_Kind.d4 (g : corralref1_Kind.R4) : List AV → List (List Value) → Store → Prop
  | [.v (.int .i64 op), .v (.bool t26)], [], σ => g op t26 σ
  | _, _, _ => False
def corralref1_Kind.S4 (K : Value → Store → Prop) (op : Int) (t26 : Bool) (σ : Store) : Prop := SndF Pr F.corralref1_Kind corralref1_Kind.H corralref1_Kind.T K 4 [.v (.int .i64 op), .v (.bool t26)] [] σ
def corralref1_Kind.j4 (K : Value → Store → Prop) (op : Int) (t26 : Bool) (σ : Store) : Prop :=
  cond t26
  (K (.int .i64 2) σ)
  (cond (decide (op ≥ 5))
    (Hop (corralref1_Kind.T 6) (corralref1_Kind.T 6) (corralref1_Kind.j6 K op (decide (op ≤ 10)) σ))
    (Hop (corralref1_Kind.T 6) (corralref1_Kind.T 6) (corralref1_Kind.j6 K op false σ)))
def corralref1_Kind.d2 (g : corralref1_Kind.R2) : List AV → List (List Value) → Store → Prop
  | [.v (.int .i64 op), .v (.bool t3)], [], σ => g op t3 σ
  | _, _, _ => False
def corralref1_Kind.S2 (K : Value → Store → Prop) (op : Int) (t3 : Bool) (σ : Store) : Prop := SndF Pr F.corralref1_Kind corralref1_Kind.H corralref1_Kind.T K 2 [.v (.int .i64 op), .v (.bool t3)] [] σ
def corralref1_Kind.j2 (K : Value → Store → Prop) (op : Int) (t3 : Bool) (σ : Store) : Prop :=
  cond t3
  (K (.int .i64 1) σ)
  (cond (op == 3)
    (Hop (corralref1_Kind.T 4) (corralref1_Kind.T 4) (corralref1_Kind.j4 K op true σ))
    (Hop (corralref1_Kind.T 4) (corralref1_Kind.T 4) (corralref1_Kind.j4 K op (op == 4) σ)))
def corralref1_Kind.m (K : Value → Store → Prop) (op : Int) (σ : Store) : Prop :=
  cond (op == 1)
  (Hop (corralref1_Kind.T 2) (corralref1_Kind.T 2) (corralref1_Kind.j2 K op true σ))
  (cond (op == 2)
    (Hop (corralref1_Kind.T 2) (corralref1_Kind.T 2) (corralref1_Kind.j2 K op true σ))
    (cond (decide (op ≥ 19))
      (cond (decide (op ≤ 37))
        (Hop (corralref1_Kind.T 2) (corralref1_Kind.T 2) (corralref1_Kind.j2 K op true σ))
        (cond (decide (op ≥ 51))
          (Hop (corralref1_Kind.T 2) (corralref1_Kind.T 2) (corralref1_Kind.j2 K op (decide (op ≤ 58)) σ))
          (Hop (corralref1_Kind.T 2) (corralref1_Kind.T 2) (corralref1_Kind.j2 K op false σ))))
      (cond (decide (op ≥ 51))
        (Hop (corralref1_Kind.T 2) (corralref1_Kind.T 2) (corralref1_Kind.j2 K op (decide (op ≤ 58)) σ))
        (Hop (corralref1_Kind.T 2) (corralref1_Kind.T 2) (corralref1_Kind.j2 K op false σ)))))
theorem corralref1_Kind.d12_ok {K : Value → Store → Prop} {g : corralref1_Kind.R12} (hg : ∀ op t58 σ, g op t58 σ → corralref1_Kind.S12 K op t58 σ) (vs : List AV) (bs : List (List Value)) (σ : Store) (h : corralref1_Kind.d12 g vs bs σ) : SndF Pr F.corralref1_Kind corralref1_Kind.H corralref1_Kind.T K 12 vs bs σ := by
  unfold corralref1_Kind.d12 at h
  split at h
  · exact hg _ _ _ h
  · exact h.elim
theorem corralref1_Kind.d10_ok {K : Value → Store → Prop} {g : corralref1_Kind.R10} (hg : ∀ op t51 σ, g op t51 σ → corralref1_Kind.S10 K op t51 σ) (vs : List AV) (bs : List (List Value)) (σ : Store) (h : corralref1_Kind.d10 g vs bs σ) : SndF Pr F.corralref1_Kind corralref1_Kind.H corralref1_Kind.T K 10 vs bs σ := by
  unfold corralref1_Kind.d10 at h
  split at h
  · exact hg _ _ _ h
  · exact h.elim
theorem corralref1_Kind.d8_ok {K : Value → Store → Prop} {g : corralref1_Kind.R8} (hg : ∀ op t40 σ, g op t40 σ → corralref1_Kind.S8 K op t40 σ) (vs : List AV) (bs : List (List Value)) (σ : Store) (h : corralref1_Kind.d8 g vs bs σ) : SndF Pr F.corralref1_Kind corralref1_Kind.H corralref1_Kind.T K 8 vs bs σ := by
  unfold corralref1_Kind.d8 at h
  split at h
  · exact hg _ _ _ h
  · exact h.elim
theorem corralref1_Kind.d6_ok {K : Value → Store → Prop} {g : corralref1_Kind.R6} (hg : ∀ op t33 σ, g op t33 σ → corralref1_Kind.S6 K op t33 σ) (vs : List AV) (bs : List (List Value)) (σ : Store) (h : corralref1_Kind.d6 g vs bs σ) : SndF Pr F.corralref1_Kind corralref1_Kind.H corralref1_Kind.T K 6 vs bs σ := by
  unfold corralref1_Kind.d6 at h
  split at h
  · exact hg _ _ _ h
  · exact h.elim
theorem corralref1_Kind.d4_ok {K : Value → Store → Prop} {g : corralref1_Kind.R4} (hg : ∀ op t26 σ, g op t26 σ → corralref1_Kind.S4 K op t26 σ) (vs : List AV) (bs : List (List Value)) (σ : Store) (h : corralref1_Kind.d4 g vs bs σ) : SndF Pr F.corralref1_Kind corralref1_Kind.H corralref1_Kind.T K 4 vs bs σ := by
  unfold corralref1_Kind.d4 at h
  split at h
  · exact hg _ _ _ h
  · exact h.elim
theorem corralref1_Kind.d2_ok {K : Value → Store → Prop} {g : corralref1_Kind.R2} (hg : ∀ op t3 σ, g op t3 σ → corralref1_Kind.S2 K op t3 σ) (vs : List AV) (bs : List (List Value)) (σ : Store) (h : corralref1_Kind.d2 g vs bs σ) : SndF Pr F.corralref1_Kind corralref1_Kind.H corralref1_Kind.T K 2 vs bs σ := by
  unfold corralref1_Kind.d2 at h
  split at h
  · exact hg _ _ _ h
  · exact h.elim
noncomputable def corralref1_Kind.h12 (K : Value → Store → Prop) : Hand := hsel []
theorem corralref1_Kind.j12_eq (K : Value → Store → Prop) (op : Int) (t58 : Bool) (σ : Store) : (seg Pr corralref1_Kind.H F.corralref1_Kind corralref1_Kind.T (corralref1_Kind.h12 K ) K (corralref1_Kind.T 12) (Ev.cutE corralref1_Kind.H 12 [.v (.int .i64 op), .v (.bool t58)] []) σ) = corralref1_Kind.j12 K op t58 σ := by kernel_rfl
theorem corralref1_Kind.j12_ok (K : Value → Store → Prop) (op : Int) (t58 : Bool) (σ : Store) (h : corralref1_Kind.j12 K op t58 σ) : corralref1_Kind.S12 K op t58 σ := by
  rw [← corralref1_Kind.j12_eq] at h
  exact seg_snd Pr_mixed (hsel_sound fun x hx => by
    cases hx) h
noncomputable def corralref1_Kind.h10 (K : Value → Store → Prop) : Hand := hsel [(12, corralref1_Kind.d12 (corralref1_Kind.j12 K ))]
theorem corralref1_Kind.j10_eq (K : Value → Store → Prop) (op : Int) (t51 : Bool) (σ : Store) : (seg Pr corralref1_Kind.H F.corralref1_Kind corralref1_Kind.T (corralref1_Kind.h10 K ) K (corralref1_Kind.T 10) (Ev.cutE corralref1_Kind.H 10 [.v (.int .i64 op), .v (.bool t51)] []) σ) = corralref1_Kind.j10 K op t51 σ := by kernel_rfl
theorem corralref1_Kind.j10_ok (K : Value → Store → Prop) (op : Int) (t51 : Bool) (σ : Store) (h : corralref1_Kind.j10 K op t51 σ) : corralref1_Kind.S10 K op t51 σ := by
  rw [← corralref1_Kind.j10_eq] at h
  exact seg_snd Pr_mixed (hsel_sound fun x hx => by
    simp only [List.mem_cons, List.not_mem_nil, or_false] at hx
    subst hx
    exact corralref1_Kind.d12_ok fun _ _ _ h => corralref1_Kind.j12_ok K _ _ _ h) h
noncomputable def corralref1_Kind.h8 (K : Value → Store → Prop) : Hand := hsel [(10, corralref1_Kind.d10 (corralref1_Kind.j10 K ))]
theorem corralref1_Kind.j8_eq (K : Value → Store → Prop) (op : Int) (t40 : Bool) (σ : Store) : (seg Pr corralref1_Kind.H F.corralref1_Kind corralref1_Kind.T (corralref1_Kind.h8 K ) K (corralref1_Kind.T 8) (Ev.cutE corralref1_Kind.H 8 [.v (.int .i64 op), .v (.bool t40)] []) σ) = corralref1_Kind.j8 K op t40 σ := by kernel_rfl
theorem corralref1_Kind.j8_ok (K : Value → Store → Prop) (op : Int) (t40 : Bool) (σ : Store) (h : corralref1_Kind.j8 K op t40 σ) : corralref1_Kind.S8 K op t40 σ := by
  rw [← corralref1_Kind.j8_eq] at h
  exact seg_snd Pr_mixed (hsel_sound fun x hx => by
    simp only [List.mem_cons, List.not_mem_nil, or_false] at hx
    subst hx
    exact corralref1_Kind.d10_ok fun _ _ _ h => corralref1_Kind.j10_ok K _ _ _ h) h
noncomputable def corralref1_Kind.h6 (K : Value → Store → Prop) : Hand := hsel [(8, corralref1_Kind.d8 (corralref1_Kind.j8 K ))]
theorem corralref1_Kind.j6_eq (K : Value → Store → Prop) (op : Int) (t33 : Bool) (σ : Store) : (seg Pr corralref1_Kind.H F.corralref1_Kind corralref1_Kind.T (corralref1_Kind.h6 K ) K (corralref1_Kind.T 6) (Ev.cutE corralref1_Kind.H 6 [.v (.int .i64 op), .v (.bool t33)] []) σ) = corralref1_Kind.j6 K op t33 σ := by kernel_rfl
theorem corralref1_Kind.j6_ok (K : Value → Store → Prop) (op : Int) (t33 : Bool) (σ : Store) (h : corralref1_Kind.j6 K op t33 σ) : corralref1_Kind.S6 K op t33 σ := by
  rw [← corralref1_Kind.j6_eq] at h
  exact seg_snd Pr_mixed (hsel_sound fun x hx => by
    simp only [List.mem_cons, List.not_mem_nil, or_false] at hx
    subst hx
    exact corralref1_Kind.d8_ok fun _ _ _ h => corralref1_Kind.j8_ok K _ _ _ h) h
noncomputable def corralref1_Kind.h4 (K : Value → Store → Prop) : Hand := hsel [(6, corralref1_Kind.d6 (corralref1_Kind.j6 K ))]
theorem corralref1_Kind.j4_eq (K : Value → Store → Prop) (op : Int) (t26 : Bool) (σ : Store) : (seg Pr corralref1_Kind.H F.corralref1_Kind corralref1_Kind.T (corralref1_Kind.h4 K ) K (corralref1_Kind.T 4) (Ev.cutE corralref1_Kind.H 4 [.v (.int .i64 op), .v (.bool t26)] []) σ) = corralref1_Kind.j4 K op t26 σ := by kernel_rfl
theorem corralref1_Kind.j4_ok (K : Value → Store → Prop) (op : Int) (t26 : Bool) (σ : Store) (h : corralref1_Kind.j4 K op t26 σ) : corralref1_Kind.S4 K op t26 σ := by
  rw [← corralref1_Kind.j4_eq] at h
  exact seg_snd Pr_mixed (hsel_sound fun x hx => by
    simp only [List.mem_cons, List.not_mem_nil, or_false] at hx
    subst hx
    exact corralref1_Kind.d6_ok fun _ _ _ h => corralref1_Kind.j6_ok K _ _ _ h) h
noncomputable def corralref1_Kind.h2 (K : Value → Store → Prop) : Hand := hsel [(4, corralref1_Kind.d4 (corralref1_Kind.j4 K ))]
theorem corralref1_Kind.j2_eq (K : Value → Store → Prop) (op : Int) (t3 : Bool) (σ : Store) : (seg Pr corralref1_Kind.H F.corralref1_Kind corralref1_Kind.T (corralref1_Kind.h2 K ) K (corralref1_Kind.T 2) (Ev.cutE corralref1_Kind.H 2 [.v (.int .i64 op), .v (.bool t3)] []) σ) = corralref1_Kind.j2 K op t3 σ := by kernel_rfl
theorem corralref1_Kind.j2_ok (K : Value → Store → Prop) (op : Int) (t3 : Bool) (σ : Store) (h : corralref1_Kind.j2 K op t3 σ) : corralref1_Kind.S2 K op t3 σ := by
  rw [← corralref1_Kind.j2_eq] at h
  exact seg_snd Pr_mixed (hsel_sound fun x hx => by
    simp only [List.mem_cons, List.not_mem_nil, or_false] at hx
    subst hx
    exact corralref1_Kind.d4_ok fun _ _ _ h => corralref1_Kind.j4_ok K _ _ _ h) h
noncomputable def corralref1_Kind.h (K : Value → Store → Prop) : Hand := hsel [(2, corralref1_Kind.d2 (corralref1_Kind.j2 K ))]
theorem corralref1_Kind.m_eq (K : Value → Store → Prop) (op : Int) (σ : Store) : (segF Pr corralref1_Kind.H F.corralref1_Kind corralref1_Kind.T (corralref1_Kind.h K) K [.int .i64 op] σ) = corralref1_Kind.m K op σ := by kernel_rfl
theorem corralref1_Kind.ok {K : Value → Store → Prop} {op : Int} {σ : Store} (h : corralref1_Kind.m K op σ) : Spec Pr F.corralref1_Kind [.int .i64 op] σ K := by
  rw [← corralref1_Kind.m_eq] at h
  exact segF_spec Pr_mixed (hsel_sound fun x hx => by
    simp only [List.mem_cons, List.not_mem_nil, or_false] at hx
    subst hx
    exact corralref1_Kind.d2_ok fun _ _ _ h => corralref1_Kind.j2_ok K _ _ _ h) h

/-! ### corral/corralref1.Decode -/
def corralref1_Decode.H : Hints := { esc := [], cuts := [(3, [0, 4, 5], [(2, 24)]), (12, [0, 4, 5], [(2, 24), (6, 38), (7, 24)]), (14, [0, 4, 5], [(2, 24), (6, 38), (7, 24)]), (16, [0, 4, 5], [(2, 24), (6, 38), (7, 24)]), (18, [0, 4, 5], [(2, 24), (6, 38), (7, 24)]), (21, [0, 4, 5], [(2, 24), (6, 38), (7, 24)]), (24, [], [(2, 24)])] }
noncomputable def corralref1_Decode.T : Nat → List Item := stk Pr F.corralref1_Decode [(3, [1, 1, 0, 1, 0, 0]), (12, [1, 1, 0, 1, 0, 0, 1, 0, 0, 1, 1, 1, 1]), (14, [1, 1, 0, 1, 0, 0, 1, 0, 0, 1, 1, 1, 1, 1]), (16, [1, 1, 0, 1, 0, 0, 1, 0, 0, 1, 1, 1, 1, 1, 1]), (18, [1, 1, 0, 1, 0, 0, 1, 0, 0, 1, 1, 1, 1, 1, 1, 1]), (21, [1, 1, 0, 1, 0, 0, 1, 0, 0, 1, 1, 1, 1, 1, 1, 1, 1]), (24, [1, 1, 1])]
abbrev corralref1_Decode.R21 : Type := Int → Option Addr → Nat → Nat → Int → Int → Int → Int → Int → Int → Int → Bool → Bool → Int → ByteArray → Int → Int → Int → Bool → Bool → Int → Bool → Bool → Bool → Bool → Int → Bool → Int → Int → Int → Int → Int → Int → Bool → Bool → Store → Prop
abbrev corralref1_Decode.R18 : Type := Int → Option Addr → Nat → Nat → Int → Int → Int → Int → Int → Int → Int → Bool → Bool → Int → ByteArray → Int → Int → Int → Bool → Bool → Int → Bool → Bool → Bool → Bool → Int → Bool → Int → Int → Int → Int → Int → Int → Bool → Bool → Store → Prop
abbrev corralref1_Decode.R16 : Type := Int → Option Addr → Nat → Nat → Int → Int → Int → Int → Int → Int → Int → Bool → Bool → Int → ByteArray → Int → Int → Int → Bool → Bool → Int → Bool → Bool → Bool → Bool → Int → Bool → Int → Int → Int → Int → Int → Int → Bool → Bool → Store → Prop
abbrev corralref1_Decode.R14 : Type := Int → Option Addr → Nat → Nat → Int → Int → Int → Int → Int → Int → Int → Bool → Bool → Int → ByteArray → Int → Int → Int → Bool → Bool → Int → Bool → Bool → Bool → Bool → Int → Bool → Int → Int → Int → Int → Int → Int → Bool → Bool → Store → Prop
abbrev corralref1_Decode.R12 : Type := Int → Option Addr → Nat → Nat → Int → Int → Int → Int → Int → Int → Int → Bool → Bool → Int → ByteArray → Int → Int → Int → Bool → Bool → Int → Bool → Bool → Bool → Bool → Int → Bool → Int → Int → Int → Int → Int → Int → Bool → Bool → Store → Prop
abbrev corralref1_Decode.R24 : Type := Int → Int → Int → Int → Int → Int → Bool → Bool → Store → Prop
abbrev corralref1_Decode.R3 : Type := Int → Option Addr → Nat → Nat → Int → Int → Int → Int → Int → Int → Int → Bool → Bool → Store → Prop
def corralref1_Decode.d21 (g : corralref1_Decode.R21) : List AV → List (List Value) → Store → Prop
  | [.v (.int .u32 w), .v (.slice lA lN lC), .v (.int .i64 k)], [[.int .i64 t20, .int .i64 t21, .int .i64 t22, .int .i64 t23, .int .i64 t24, .int .u32 t25, .bool t26, .bool t27], [.int .i64 r0, .string r1, .int .u32 r2, .int .u32 r3, .int .u32 r4, .bool r5, .bool r6, .int .u8 r7, .bool r8, .bool r9, .bool r10, .bool r11, .int .u32 r12, .bool r13], [.int .i64 i0, .int .i64 i1, .int .i64 i2, .int .i64 i3, .int .i64 i4, .int .u32 i5, .bool i6, .bool i7]], σ => g w lA lN lC k t20 t21 t22 t23 t24 t25 t26 t27 r0 r1 r2 r3 r4 r5 r6 r7 r8 r9 r10 r11 r12 r13 i0 i1 i2 i3 i4 i5 i6 i7 σ
  | _, _, _ => False
def corralref1_Decode.S21 (K : Value → Store → Prop) (w : Int) (lA : Option Addr) (lN lC : Nat) (k t20 t21 t22 t23 t24 t25 : Int) (t26 t27 : Bool) (r0 : Int) (r1 : ByteArray) (r2 r3 r4 : Int) (r5 r6 : Bool) (r7 : Int) (r8 r9 r10 r11 : Bool) (r12 : Int) (r13 : Bool) (i0 i1 i2 i3 i4 i5 : Int) (i6 i7 : Bool) (σ : Store) : Prop := SndF Pr F.corralref1_Decode corralref1_Decode.H corralref1_Decode.T K 21 [.v (.int .u32 w), .v (.slice lA lN lC), .v (.int .i64 k)] [[.int .i64 t20, .int .i64 t21, .int .i64 t22, .int .i64 t23, .int .i64 t24, .int .u32 t25, .bool t26, .bool t27], [.int .i64 r0, .string r1, .int .u32 r2, .int .u32 r3, .int .u32 r4, .bool r5, .bool r6, .int .u8 r7, .bool r8, .bool r9, .bool r10, .bool r11, .int .u32 r12, .bool r13], [.int .i64 i0, .int .i64 i1, .int .i64 i2, .int .i64 i3, .int .i64 i4, .int .u32 i5, .bool i6, .bool i7]] σ
def corralref1_Decode.j21 (K : Value → Store → Prop) (rr3 : corralref1_Decode.R3) (w : Int) (lA : Option Addr) (lN lC : Nat) (k t20 t21 t22 t23 t24 t25 : Int) (t26 t27 : Bool) (r0 : Int) (r1 : ByteArray) (r2 r3 r4 : Int) (r5 r6 : Bool) (r7 : Int) (r8 r9 r10 r11 : Bool) (r12 : Int) (r13 : Bool) (i0 i1 i2 i3 i4 i5 : Int) (i6 i7 : Bool) (σ : Store) : Prop :=
  Spec Pr F.corralref1_imm [.int .u8 r7, .int .u32 w] σ fun v σ_ => ∃ t69 : Int, v = .int .u32 t69 ∧
  Spec Pr F.corralref1_word [.agg #[.int .i64 r0, .string r1, .int .u32 r2, .int .u32 r3, .int .u32 r4, .bool r5, .bool r6, .int .u8 r7, .bool r8, .bool r9, .bool r10, .bool r11, .int .u32 r12, .bool r13], .agg #[.int .i64 i0, .int .i64 i1, .int .i64 i2, .int .i64 i3, .int .i64 i4, .int .u32 t69, .bool i6, .bool i7]] σ_ fun v1 σ_1 => ∃ t73 : Int, v1 = .int .u32 t73 ∧
  cond (t73 == w)
  (K (.tuple #[.agg #[.int .i64 i0, .int .i64 i1, .int .i64 i2, .int .i64 i3, .int .i64 i4, .int .u32 t69, .bool i6, .bool i7], .bool true]) σ_1)
  (Hop (corralref1_Decode.T 3) (corralref1_Decode.T 3) (rr3 w lA lN lC (IntKind.wrap .i64 (k + 1)) t20 t21 t22 t23 t24 t25 t26 t27 σ_1))
def corralref1_Decode.d18 (g : corralref1_Decode.R18) : List AV → List (List Value) → Store → Prop
  | [.v (.int .u32 w), .v (.slice lA lN lC), .v (.int .i64 k)], [[.int .i64 t20, .int .i64 t21, .int .i64 t22, .int .i64 t23, .int .i64 t24, .int .u32 t25, .bool t26, .bool t27], [.int .i64 r0, .string r1, .int .u32 r2, .int .u32 r3, .int .u32 r4, .bool r5, .bool r6, .int .u8 r7, .bool r8, .bool r9, .bool r10, .bool r11, .int .u32 r12, .bool r13], [.int .i64 i0, .int .i64 i1, .int .i64 i2, .int .i64 i3, .int .i64 i4, .int .u32 i5, .bool i6, .bool i7]], σ => g w lA lN lC k t20 t21 t22 t23 t24 t25 t26 t27 r0 r1 r2 r3 r4 r5 r6 r7 r8 r9 r10 r11 r12 r13 i0 i1 i2 i3 i4 i5 i6 i7 σ
  | _, _, _ => False
def corralref1_Decode.S18 (K : Value → Store → Prop) (w : Int) (lA : Option Addr) (lN lC : Nat) (k t20 t21 t22 t23 t24 t25 : Int) (t26 t27 : Bool) (r0 : Int) (r1 : ByteArray) (r2 r3 r4 : Int) (r5 r6 : Bool) (r7 : Int) (r8 r9 r10 r11 : Bool) (r12 : Int) (r13 : Bool) (i0 i1 i2 i3 i4 i5 : Int) (i6 i7 : Bool) (σ : Store) : Prop := SndF Pr F.corralref1_Decode corralref1_Decode.H corralref1_Decode.T K 18 [.v (.int .u32 w), .v (.slice lA lN lC), .v (.int .i64 k)] [[.int .i64 t20, .int .i64 t21, .int .i64 t22, .int .i64 t23, .int .i64 t24, .int .u32 t25, .bool t26, .bool t27], [.int .i64 r0, .string r1, .int .u32 r2, .int .u32 r3, .int .u32 r4, .bool r5, .bool r6, .int .u8 r7, .bool r8, .bool r9, .bool r10, .bool r11, .int .u32 r12, .bool r13], [.int .i64 i0, .int .i64 i1, .int .i64 i2, .int .i64 i3, .int .i64 i4, .int .u32 i5, .bool i6, .bool i7]] σ
def corralref1_Decode.j18 (K : Value → Store → Prop) (rr3 : corralref1_Decode.R3) (w : Int) (lA : Option Addr) (lN lC : Nat) (k t20 t21 t22 t23 t24 t25 : Int) (t26 t27 : Bool) (r0 : Int) (r1 : ByteArray) (r2 r3 r4 : Int) (r5 r6 : Bool) (r7 : Int) (r8 r9 r10 r11 : Bool) (r12 : Int) (r13 : Bool) (i0 i1 i2 i3 i4 i5 : Int) (i6 i7 : Bool) (σ : Store) : Prop :=
  cond r13
  (Spec Pr F.corralref1_Bits [.int .u32 w, .int .i64 26, .int .i64 1] σ fun v σ_ => ∃ t59 : Int, v = .int .u32 t59 ∧
    Spec Pr F.corralref1_Bits [.int .u32 w, .int .i64 25, .int .i64 1] σ_ fun v1 σ_1 => ∃ t63 : Int, v1 = .int .u32 t63 ∧
    Hop (corralref1_Decode.T 21) (corralref1_Decode.T 21) (corralref1_Decode.j21 K rr3 w lA lN lC k t20 t21 t22 t23 t24 t25 t26 t27 r0 r1 r2 r3 r4 r5 r6 r7 r8 r9 r10 r11 r12 r13 i0 i1 i2 i3 i4 i5 (t59 == 1) (t63 == 1) σ_1))
  (Hop (corralref1_Decode.T 21) (corralref1_Decode.T 21) (corralref1_Decode.j21 K rr3 w lA lN lC k t20 t21 t22 t23 t24 t25 t26 t27 r0 r1 r2 r3 r4 r5 r6 r7 r8 r9 r10 r11 r12 r13 i0 i1 i2 i3 i4 i5 i6 i7 σ))
def corralref1_Decode.d16 (g : corralref1_Decode.R16) : List AV → List (List Value) → Store → Prop
  | [.v (.int .u32 w), .v (.slice lA lN lC), .v (.int .i64 k)], [[.int .i64 t20, .int .i64 t21, .int .i64 t22, .int .i64 t23, .int .i64 t24, .int .u32 t25, .bool t26, .bool t27], [.int .i64 r0, .string r1, .int .u32 r2, .int .u32 r3, .int .u32 r4, .bool r5, .bool r6, .int .u8 r7, .bool r8, .bool r9, .bool r10, .bool r11, .int .u32 r12, .bool r13], [.int .i64 i0, .int .i64 i1, .int .i64 i2, .int .i64 i3, .int .i64 i4, .int .u32 i5, .bool i6, .bool i7]], σ => g w lA lN lC k t20 t21 t22 t23 t24 t25 t26 t27 r0 r1 r2 r3 r4 r5 r6 r7 r8 r9 r10 r11 r12 r13 i0 i1 i2 i3 i4 i5 i6 i7 σ
  | _, _, _ => False
def corralref1_Decode.S16 (K : Value → Store → Prop) (w : Int) (lA : Option Addr) (lN lC : Nat) (k t20 t21 t22 t23 t24 t25 : Int) (t26 t27 : Bool) (r0 : Int) (r1 : ByteArray) (r2 r3 r4 : Int) (r5 r6 : Bool) (r7 : Int) (r8 r9 r10 r11 : Bool) (r12 : Int) (r13 : Bool) (i0 i1 i2 i3 i4 i5 : Int) (i6 i7 : Bool) (σ : Store) : Prop := SndF Pr F.corralref1_Decode corralref1_Decode.H corralref1_Decode.T K 16 [.v (.int .u32 w), .v (.slice lA lN lC), .v (.int .i64 k)] [[.int .i64 t20, .int .i64 t21, .int .i64 t22, .int .i64 t23, .int .i64 t24, .int .u32 t25, .bool t26, .bool t27], [.int .i64 r0, .string r1, .int .u32 r2, .int .u32 r3, .int .u32 r4, .bool r5, .bool r6, .int .u8 r7, .bool r8, .bool r9, .bool r10, .bool r11, .int .u32 r12, .bool r13], [.int .i64 i0, .int .i64 i1, .int .i64 i2, .int .i64 i3, .int .i64 i4, .int .u32 i5, .bool i6, .bool i7]] σ
def corralref1_Decode.j16 (K : Value → Store → Prop) (rr3 : corralref1_Decode.R3) (w : Int) (lA : Option Addr) (lN lC : Nat) (k t20 t21 t22 t23 t24 t25 : Int) (t26 t27 : Bool) (r0 : Int) (r1 : ByteArray) (r2 r3 r4 : Int) (r5 r6 : Bool) (r7 : Int) (r8 r9 r10 r11 : Bool) (r12 : Int) (r13 : Bool) (i0 i1 i2 i3 i4 i5 : Int) (i6 i7 : Bool) (σ : Store) : Prop :=
  cond r11
  (Spec Pr F.corralref1_Bits [.int .u32 w, .int .i64 20, .int .i64 12] σ fun v σ_ => ∃ t53 : Int, v = .int .u32 t53 ∧
    Hop (corralref1_Decode.T 18) (corralref1_Decode.T 18) (corralref1_Decode.j18 K rr3 w lA lN lC k t20 t21 t22 t23 t24 t25 t26 t27 r0 r1 r2 r3 r4 r5 r6 r7 r8 r9 r10 r11 r12 r13 i0 i1 i2 i3 (IntKind.wrap .i64 t53) i5 i6 i7 σ_))
  (Hop (corralref1_Decode.T 18) (corralref1_Decode.T 18) (corralref1_Decode.j18 K rr3 w lA lN lC k t20 t21 t22 t23 t24 t25 t26 t27 r0 r1 r2 r3 r4 r5 r6 r7 r8 r9 r10 r11 r12 r13 i0 i1 i2 i3 i4 i5 i6 i7 σ))
def corralref1_Decode.d14 (g : corralref1_Decode.R14) : List AV → List (List Value) → Store → Prop
  | [.v (.int .u32 w), .v (.slice lA lN lC), .v (.int .i64 k)], [[.int .i64 t20, .int .i64 t21, .int .i64 t22, .int .i64 t23, .int .i64 t24, .int .u32 t25, .bool t26, .bool t27], [.int .i64 r0, .string r1, .int .u32 r2, .int .u32 r3, .int .u32 r4, .bool r5, .bool r6, .int .u8 r7, .bool r8, .bool r9, .bool r10, .bool r11, .int .u32 r12, .bool r13], [.int .i64 i0, .int .i64 i1, .int .i64 i2, .int .i64 i3, .int .i64 i4, .int .u32 i5, .bool i6, .bool i7]], σ => g w lA lN lC k t20 t21 t22 t23 t24 t25 t26 t27 r0 r1 r2 r3 r4 r5 r6 r7 r8 r9 r10 r11 r12 r13 i0 i1 i2 i3 i4 i5 i6 i7 σ
  | _, _, _ => False
def corralref1_Decode.S14 (K : Value → Store → Prop) (w : Int) (lA : Option Addr) (lN lC : Nat) (k t20 t21 t22 t23 t24 t25 : Int) (t26 t27 : Bool) (r0 : Int) (r1 : ByteArray) (r2 r3 r4 : Int) (r5 r6 : Bool) (r7 : Int) (r8 r9 r10 r11 : Bool) (r12 : Int) (r13 : Bool) (i0 i1 i2 i3 i4 i5 : Int) (i6 i7 : Bool) (σ : Store) : Prop := SndF Pr F.corralref1_Decode corralref1_Decode.H corralref1_Decode.T K 14 [.v (.int .u32 w), .v (.slice lA lN lC), .v (.int .i64 k)] [[.int .i64 t20, .int .i64 t21, .int .i64 t22, .int .i64 t23, .int .i64 t24, .int .u32 t25, .bool t26, .bool t27], [.int .i64 r0, .string r1, .int .u32 r2, .int .u32 r3, .int .u32 r4, .bool r5, .bool r6, .int .u8 r7, .bool r8, .bool r9, .bool r10, .bool r11, .int .u32 r12, .bool r13], [.int .i64 i0, .int .i64 i1, .int .i64 i2, .int .i64 i3, .int .i64 i4, .int .u32 i5, .bool i6, .bool i7]] σ
def corralref1_Decode.j14 (K : Value → Store → Prop) (rr3 : corralref1_Decode.R3) (w : Int) (lA : Option Addr) (lN lC : Nat) (k t20 t21 t22 t23 t24 t25 : Int) (t26 t27 : Bool) (r0 : Int) (r1 : ByteArray) (r2 r3 r4 : Int) (r5 r6 : Bool) (r7 : Int) (r8 r9 r10 r11 : Bool) (r12 : Int) (r13 : Bool) (i0 i1 i2 i3 i4 i5 : Int) (i6 i7 : Bool) (σ : Store) : Prop :=
  cond r10
  (Spec Pr F.corralref1_Bits [.int .u32 w, .int .i64 20, .int .i64 5] σ fun v σ_ => ∃ t47 : Int, v = .int .u32 t47 ∧
    Hop (corralref1_Decode.T 16) (corralref1_Decode.T 16) (corralref1_Decode.j16 K rr3 w lA lN lC k t20 t21 t22 t23 t24 t25 t26 t27 r0 r1 r2 r3 r4 r5 r6 r7 r8 r9 r10 r11 r12 r13 i0 i1 i2 (IntKind.wrap .i64 t47) i4 i5 i6 i7 σ_))
  (Hop (corralref1_Decode.T 16) (corralref1_Decode.T 16) (corralref1_Decode.j16 K rr3 w lA lN lC k t20 t21 t22 t23 t24 t25 t26 t27 r0 r1 r2 r3 r4 r5 r6 r7 r8 r9 r10 r11 r12 r13 i0 i1 i2 i3 i4 i5 i6 i7 σ))
def corralref1_Decode.d12 (g : corralref1_Decode.R12) : List AV → List (List Value) → Store → Prop
  | [.v (.int .u32 w), .v (.slice lA lN lC), .v (.int .i64 k)], [[.int .i64 t20, .int .i64 t21, .int .i64 t22, .int .i64 t23, .int .i64 t24, .int .u32 t25, .bool t26, .bool t27], [.int .i64 r0, .string r1, .int .u32 r2, .int .u32 r3, .int .u32 r4, .bool r5, .bool r6, .int .u8 r7, .bool r8, .bool r9, .bool r10, .bool r11, .int .u32 r12, .bool r13], [.int .i64 i0, .int .i64 i1, .int .i64 i2, .int .i64 i3, .int .i64 i4, .int .u32 i5, .bool i6, .bool i7]], σ => g w lA lN lC k t20 t21 t22 t23 t24 t25 t26 t27 r0 r1 r2 r3 r4 r5 r6 r7 r8 r9 r10 r11 r12 r13 i0 i1 i2 i3 i4 i5 i6 i7 σ
  | _, _, _ => False
def corralref1_Decode.S12 (K : Value → Store → Prop) (w : Int) (lA : Option Addr) (lN lC : Nat) (k t20 t21 t22 t23 t24 t25 : Int) (t26 t27 : Bool) (r0 : Int) (r1 : ByteArray) (r2 r3 r4 : Int) (r5 r6 : Bool) (r7 : Int) (r8 r9 r10 r11 : Bool) (r12 : Int) (r13 : Bool) (i0 i1 i2 i3 i4 i5 : Int) (i6 i7 : Bool) (σ : Store) : Prop := SndF Pr F.corralref1_Decode corralref1_Decode.H corralref1_Decode.T K 12 [.v (.int .u32 w), .v (.slice lA lN lC), .v (.int .i64 k)] [[.int .i64 t20, .int .i64 t21, .int .i64 t22, .int .i64 t23, .int .i64 t24, .int .u32 t25, .bool t26, .bool t27], [.int .i64 r0, .string r1, .int .u32 r2, .int .u32 r3, .int .u32 r4, .bool r5, .bool r6, .int .u8 r7, .bool r8, .bool r9, .bool r10, .bool r11, .int .u32 r12, .bool r13], [.int .i64 i0, .int .i64 i1, .int .i64 i2, .int .i64 i3, .int .i64 i4, .int .u32 i5, .bool i6, .bool i7]] σ
def corralref1_Decode.j12 (K : Value → Store → Prop) (rr3 : corralref1_Decode.R3) (w : Int) (lA : Option Addr) (lN lC : Nat) (k t20 t21 t22 t23 t24 t25 : Int) (t26 t27 : Bool) (r0 : Int) (r1 : ByteArray) (r2 r3 r4 : Int) (r5 r6 : Bool) (r7 : Int) (r8 r9 r10 r11 : Bool) (r12 : Int) (r13 : Bool) (i0 i1 i2 i3 i4 i5 : Int) (i6 i7 : Bool) (σ : Store) : Prop :=
  cond r9
  (Spec Pr F.corralref1_Bits [.int .u32 w, .int .i64 15, .int .i64 5] σ fun v σ_ => ∃ t41 : Int, v = .int .u32 t41 ∧
    Hop (corralref1_Decode.T 14) (corralref1_Decode.T 14) (corralref1_Decode.j14 K rr3 w lA lN lC k t20 t21 t22 t23 t24 t25 t26 t27 r0 r1 r2 r3 r4 r5 r6 r7 r8 r9 r10 r11 r12 r13 i0 i1 (IntKind.wrap .i64 t41) i3 i4 i5 i6 i7 σ_))
  (Hop (corralref1_Decode.T 14) (corralref1_Decode.T 14) (corralref1_Decode.j14 K rr3 w lA lN lC k t20 t21 t22 t23 t24 t25 t26 t27 r0 r1 r2 r3 r4 r5 r6 r7 r8 r9 r10 r11 r12 r13 i0 i1 i2 i3 i4 i5 i6 i7 σ))
def corralref1_Decode.d24 (g : corralref1_Decode.R24) : List AV → List (List Value) → Store → Prop
  | [], [[.int .i64 t20, .int .i64 t21, .int .i64 t22, .int .i64 t23, .int .i64 t24, .int .u32 t25, .bool t26, .bool t27]], σ => g t20 t21 t22 t23 t24 t25 t26 t27 σ
  | _, _, _ => False
def corralref1_Decode.S24 (K : Value → Store → Prop) (t20 t21 t22 t23 t24 t25 : Int) (t26 t27 : Bool) (σ : Store) : Prop := SndF Pr F.corralref1_Decode corralref1_Decode.H corralref1_Decode.T K 24 [] [[.int .i64 t20, .int .i64 t21, .int .i64 t22, .int .i64 t23, .int .i64 t24, .int .u32 t25, .bool t26, .bool t27]] σ
def corralref1_Decode.j24 (K : Value → Store → Prop) (t20 t21 t22 t23 t24 t25 : Int) (t26 t27 : Bool) (σ : Store) : Prop :=
  K (.tuple #[.agg #[.int .i64 0, .int .i64 0, .int .i64 0, .int .i64 0, .int .i64 0, .int .u32 0, .bool false, .bool false], .bool false]) σ
def corralref1_Decode.d3 (g : corralref1_Decode.R3) : List AV → List (List Value) → Store → Prop
  | [.v (.int .u32 w), .v (.slice lA lN lC), .v (.int .i64 k)], [[.int .i64 t20, .int .i64 t21, .int .i64 t22, .int .i64 t23, .int .i64 t24, .int .u32 t25, .bool t26, .bool t27]], σ => g w lA lN lC k t20 t21 t22 t23 t24 t25 t26 t27 σ
  | _, _, _ => False
def corralref1_Decode.S3 (K : Value → Store → Prop) (w : Int) (lA : Option Addr) (lN lC : Nat) (k t20 t21 t22 t23 t24 t25 : Int) (t26 t27 : Bool) (σ : Store) : Prop := SndF Pr F.corralref1_Decode corralref1_Decode.H corralref1_Decode.T K 3 [.v (.int .u32 w), .v (.slice lA lN lC), .v (.int .i64 k)] [[.int .i64 t20, .int .i64 t21, .int .i64 t22, .int .i64 t23, .int .i64 t24, .int .u32 t25, .bool t26, .bool t27]] σ
def corralref1_Decode.b3 (K : Value → Store → Prop) (rr3 : corralref1_Decode.R3) (w : Int) (lA : Option Addr) (lN lC : Nat) (k t20 t21 t22 t23 t24 t25 : Int) (t26 t27 : Bool) (σ : Store) : Prop :=
  cond (decide (k < ((lN : Nat) : Int)))
  (Req (decide (0 ≤ k) && decide (k < ((lN : Nat) : Int))) (
      PtrNN lA fun t17B t17O =>
      ∃ t180 : Int, ∃ t181 : ByteArray, ∃ t182 : Int, ∃ t183 : Int, ∃ t184 : Int, ∃ t185 : Bool, ∃ t186 : Bool, ∃ t187 : Int, ∃ t188 : Bool, ∃ t189 : Bool, ∃ t1810 : Bool, ∃ t1811 : Bool, ∃ t1812 : Int, ∃ t1813 : Bool, cellsAt σ t17B (t17O + k.toNat * 14) 14 = some [.int .i64 t180, .string t181, .int .u32 t182, .int .u32 t183, .int .u32 t184, .bool t185, .bool t186, .int .u8 t187, .bool t188, .bool t189, .bool t1810, .bool t1811, .int .u32 t1812, .bool t1813] ∧
      cond (t1812 != 0)
      (cond (w == t1812)
        (K (.tuple #[.agg #[.int .i64 t180, .int .i64 0, .int .i64 0, .int .i64 0, .int .i64 0, .int .u32 0, .bool false, .bool false], .bool true]) σ)
        (Hop (corralref1_Decode.T 3) (corralref1_Decode.T 3) (rr3 w lA lN lC (IntKind.wrap .i64 (k + 1)) t20 t21 t22 t23 t24 t25 t26 t27 σ)))
      (cond t188
        (Spec Pr F.corralref1_Bits [.int .u32 w, .int .i64 7, .int .i64 5] σ fun v σ_ => ∃ t35 : Int, v = .int .u32 t35 ∧
          Hop (corralref1_Decode.T 12) (corralref1_Decode.T 12) (corralref1_Decode.j12 K rr3 w lA lN lC k t20 t21 t22 t23 t24 t25 t26 t27 t180 t181 t182 t183 t184 t185 t186 t187 t188 t189 t1810 t1811 t1812 t1813 t180 (IntKind.wrap .i64 t35) 0 0 0 0 false false σ_))
        (Hop (corralref1_Decode.T 12) (corralref1_Decode.T 12) (corralref1_Decode.j12 K rr3 w lA lN lC k t20 t21 t22 t23 t24 t25 t26 t27 t180 t181 t182 t183 t184 t185 t186 t187 t188 t189 t1810 t1811 t1812 t1813 t180 0 0 0 0 0 false false σ)))))
  (Hop (corralref1_Decode.T 24) (corralref1_Decode.T 24) (corralref1_Decode.j24 K t20 t21 t22 t23 t24 t25 t26 t27 σ))
def corralref1_Decode.l3 (K : Value → Store → Prop) : Nat → corralref1_Decode.R3
  | 0, _, _, _, _, _, _, _, _, _, _, _, _, _, _ => False
  | n + 1, w, lA, lN, lC, k, t20, t21, t22, t23, t24, t25, t26, t27, σ => corralref1_Decode.b3 K (corralref1_Decode.l3 K n) w lA lN lC k t20 t21 t22 t23 t24 t25 t26 t27 σ
def corralref1_Decode.m (K : Value → Store → Prop) (w : Int) (σ : Store) : Prop :=
  Spec Pr F.corralref1_Rows [] σ fun v σ_ => ∃ t8A : Option Addr, ∃ t8N : Nat, ∃ t8C : Nat, v = .slice t8A t8N t8C ∧
  Hop (corralref1_Decode.T 3) (corralref1_Decode.T 3) (∃ n : Nat, corralref1_Decode.l3 K n w t8A t8N t8C 0 0 0 0 0 0 0 false false σ_)
theorem corralref1_Decode.d21_ok {K : Value → Store → Prop} {g : corralref1_Decode.R21} (hg : ∀ w lA lN lC k t20 t21 t22 t23 t24 t25 t26 t27 r0 r1 r2 r3 r4 r5 r6 r7 r8 r9 r10 r11 r12 r13 i0 i1 i2 i3 i4 i5 i6 i7 σ, g w lA lN lC k t20 t21 t22 t23 t24 t25 t26 t27 r0 r1 r2 r3 r4 r5 r6 r7 r8 r9 r10 r11 r12 r13 i0 i1 i2 i3 i4 i5 i6 i7 σ → corralref1_Decode.S21 K w lA lN lC k t20 t21 t22 t23 t24 t25 t26 t27 r0 r1 r2 r3 r4 r5 r6 r7 r8 r9 r10 r11 r12 r13 i0 i1 i2 i3 i4 i5 i6 i7 σ) (vs : List AV) (bs : List (List Value)) (σ : Store) (h : corralref1_Decode.d21 g vs bs σ) : SndF Pr F.corralref1_Decode corralref1_Decode.H corralref1_Decode.T K 21 vs bs σ := by
  unfold corralref1_Decode.d21 at h
  split at h
  · exact hg _ _ _ _ _ _ _ _ _ _ _ _ _ _ _ _ _ _ _ _ _ _ _ _ _ _ _ _ _ _ _ _ _ _ _ _ h
  · exact h.elim
theorem corralref1_Decode.d18_ok {K : Value → Store → Prop} {g : corralref1_Decode.R18} (hg : ∀ w lA lN lC k t20 t21 t22 t23 t24 t25 t26 t27 r0 r1 r2 r3 r4 r5 r6 r7 r8 r9 r10 r11 r12 r13 i0 i1 i2 i3 i4 i5 i6 i7 σ, g w lA lN lC k t20 t21 t22 t23 t24 t25 t26 t27 r0 r1 r2 r3 r4 r5 r6 r7 r8 r9 r10 r11 r12 r13 i0 i1 i2 i3 i4 i5 i6 i7 σ → corralref1_Decode.S18 K w lA lN lC k t20 t21 t22 t23 t24 t25 t26 t27 r0 r1 r2 r3 r4 r5 r6 r7 r8 r9 r10 r11 r12 r13 i0 i1 i2 i3 i4 i5 i6 i7 σ) (vs : List AV) (bs : List (List Value)) (σ : Store) (h : corralref1_Decode.d18 g vs bs σ) : SndF Pr F.corralref1_Decode corralref1_Decode.H corralref1_Decode.T K 18 vs bs σ := by
  unfold corralref1_Decode.d18 at h
  split at h
  · exact hg _ _ _ _ _ _ _ _ _ _ _ _ _ _ _ _ _ _ _ _ _ _ _ _ _ _ _ _ _ _ _ _ _ _ _ _ h
  · exact h.elim
theorem corralref1_Decode.d16_ok {K : Value → Store → Prop} {g : corralref1_Decode.R16} (hg : ∀ w lA lN lC k t20 t21 t22 t23 t24 t25 t26 t27 r0 r1 r2 r3 r4 r5 r6 r7 r8 r9 r10 r11 r12 r13 i0 i1 i2 i3 i4 i5 i6 i7 σ, g w lA lN lC k t20 t21 t22 t23 t24 t25 t26 t27 r0 r1 r2 r3 r4 r5 r6 r7 r8 r9 r10 r11 r12 r13 i0 i1 i2 i3 i4 i5 i6 i7 σ → corralref1_Decode.S16 K w lA lN lC k t20 t21 t22 t23 t24 t25 t26 t27 r0 r1 r2 r3 r4 r5 r6 r7 r8 r9 r10 r11 r12 r13 i0 i1 i2 i3 i4 i5 i6 i7 σ) (vs : List AV) (bs : List (List Value)) (σ : Store) (h : corralref1_Decode.d16 g vs bs σ) : SndF Pr F.corralref1_Decode corralref1_Decode.H corralref1_Decode.T K 16 vs bs σ := by
  unfold corralref1_Decode.d16 at h
  split at h
  · exact hg _ _ _ _ _ _ _ _ _ _ _ _ _ _ _ _ _ _ _ _ _ _ _ _ _ _ _ _ _ _ _ _ _ _ _ _ h
  · exact h.elim
theorem corralref1_Decode.d14_ok {K : Value → Store → Prop} {g : corralref1_Decode.R14} (hg : ∀ w lA lN lC k t20 t21 t22 t23 t24 t25 t26 t27 r0 r1 r2 r3 r4 r5 r6 r7 r8 r9 r10 r11 r12 r13 i0 i1 i2 i3 i4 i5 i6 i7 σ, g w lA lN lC k t20 t21 t22 t23 t24 t25 t26 t27 r0 r1 r2 r3 r4 r5 r6 r7 r8 r9 r10 r11 r12 r13 i0 i1 i2 i3 i4 i5 i6 i7 σ → corralref1_Decode.S14 K w lA lN lC k t20 t21 t22 t23 t24 t25 t26 t27 r0 r1 r2 r3 r4 r5 r6 r7 r8 r9 r10 r11 r12 r13 i0 i1 i2 i3 i4 i5 i6 i7 σ) (vs : List AV) (bs : List (List Value)) (σ : Store) (h : corralref1_Decode.d14 g vs bs σ) : SndF Pr F.corralref1_Decode corralref1_Decode.H corralref1_Decode.T K 14 vs bs σ := by
  unfold corralref1_Decode.d14 at h
  split at h
  · exact hg _ _ _ _ _ _ _ _ _ _ _ _ _ _ _ _ _ _ _ _ _ _ _ _ _ _ _ _ _ _ _ _ _ _ _ _ h
  · exact h.elim
theorem corralref1_Decode.d12_ok {K : Value → Store → Prop} {g : corralref1_Decode.R12} (hg : ∀ w lA lN lC k t20 t21 t22 t23 t24 t25 t26 t27 r0 r1 r2 r3 r4 r5 r6 r7 r8 r9 r10 r11 r12 r13 i0 i1 i2 i3 i4 i5 i6 i7 σ, g w lA lN lC k t20 t21 t22 t23 t24 t25 t26 t27 r0 r1 r2 r3 r4 r5 r6 r7 r8 r9 r10 r11 r12 r13 i0 i1 i2 i3 i4 i5 i6 i7 σ → corralref1_Decode.S12 K w lA lN lC k t20 t21 t22 t23 t24 t25 t26 t27 r0 r1 r2 r3 r4 r5 r6 r7 r8 r9 r10 r11 r12 r13 i0 i1 i2 i3 i4 i5 i6 i7 σ) (vs : List AV) (bs : List (List Value)) (σ : Store) (h : corralref1_Decode.d12 g vs bs σ) : SndF Pr F.corralref1_Decode corralref1_Decode.H corralref1_Decode.T K 12 vs bs σ := by
  unfold corralref1_Decode.d12 at h
  split at h
  · exact hg _ _ _ _ _ _ _ _ _ _ _ _ _ _ _ _ _ _ _ _ _ _ _ _ _ _ _ _ _ _ _ _ _ _ _ _ h
  · exact h.elim
theorem corralref1_Decode.d24_ok {K : Value → Store → Prop} {g : corralref1_Decode.R24} (hg : ∀ t20 t21 t22 t23 t24 t25 t26 t27 σ, g t20 t21 t22 t23 t24 t25 t26 t27 σ → corralref1_Decode.S24 K t20 t21 t22 t23 t24 t25 t26 t27 σ) (vs : List AV) (bs : List (List Value)) (σ : Store) (h : corralref1_Decode.d24 g vs bs σ) : SndF Pr F.corralref1_Decode corralref1_Decode.H corralref1_Decode.T K 24 vs bs σ := by
  unfold corralref1_Decode.d24 at h
  split at h
  · exact hg _ _ _ _ _ _ _ _ _ h
  · exact h.elim
theorem corralref1_Decode.d3_ok {K : Value → Store → Prop} {g : corralref1_Decode.R3} (hg : ∀ w lA lN lC k t20 t21 t22 t23 t24 t25 t26 t27 σ, g w lA lN lC k t20 t21 t22 t23 t24 t25 t26 t27 σ → corralref1_Decode.S3 K w lA lN lC k t20 t21 t22 t23 t24 t25 t26 t27 σ) (vs : List AV) (bs : List (List Value)) (σ : Store) (h : corralref1_Decode.d3 g vs bs σ) : SndF Pr F.corralref1_Decode corralref1_Decode.H corralref1_Decode.T K 3 vs bs σ := by
  unfold corralref1_Decode.d3 at h
  split at h
  · exact hg _ _ _ _ _ _ _ _ _ _ _ _ _ _ h
  · exact h.elim
noncomputable def corralref1_Decode.h21 (K : Value → Store → Prop) (rr3 : corralref1_Decode.R3) : Hand := hsel [(3, corralref1_Decode.d3 rr3)]
theorem corralref1_Decode.j21_eq (K : Value → Store → Prop) (rr3 : corralref1_Decode.R3) (w : Int) (lA : Option Addr) (lN lC : Nat) (k t20 t21 t22 t23 t24 t25 : Int) (t26 t27 : Bool) (r0 : Int) (r1 : ByteArray) (r2 r3 r4 : Int) (r5 r6 : Bool) (r7 : Int) (r8 r9 r10 r11 : Bool) (r12 : Int) (r13 : Bool) (i0 i1 i2 i3 i4 i5 : Int) (i6 i7 : Bool) (σ : Store) : (seg Pr corralref1_Decode.H F.corralref1_Decode corralref1_Decode.T (corralref1_Decode.h21 K rr3) K (corralref1_Decode.T 21) (Ev.cutE corralref1_Decode.H 21 [.v (.int .u32 w), .v (.slice lA lN lC), .v (.int .i64 k)] [[.int .i64 t20, .int .i64 t21, .int .i64 t22, .int .i64 t23, .int .i64 t24, .int .u32 t25, .bool t26, .bool t27], [.int .i64 r0, .string r1, .int .u32 r2, .int .u32 r3, .int .u32 r4, .bool r5, .bool r6, .int .u8 r7, .bool r8, .bool r9, .bool r10, .bool r11, .int .u32 r12, .bool r13], [.int .i64 i0, .int .i64 i1, .int .i64 i2, .int .i64 i3, .int .i64 i4, .int .u32 i5, .bool i6, .bool i7]]) σ) = corralref1_Decode.j21 K rr3 w lA lN lC k t20 t21 t22 t23 t24 t25 t26 t27 r0 r1 r2 r3 r4 r5 r6 r7 r8 r9 r10 r11 r12 r13 i0 i1 i2 i3 i4 i5 i6 i7 σ := by kernel_rfl
theorem corralref1_Decode.j21_ok (K : Value → Store → Prop) (rr3 : corralref1_Decode.R3) (hh3 : ∀ w lA lN lC k t20 t21 t22 t23 t24 t25 t26 t27 σ, rr3 w lA lN lC k t20 t21 t22 t23 t24 t25 t26 t27 σ → corralref1_Decode.S3 K w lA lN lC k t20 t21 t22 t23 t24 t25 t26 t27 σ) (w : Int) (lA : Option Addr) (lN lC : Nat) (k t20 t21 t22 t23 t24 t25 : Int) (t26 t27 : Bool) (r0 : Int) (r1 : ByteArray) (r2 r3 r4 : Int) (r5 r6 : Bool) (r7 : Int) (r8 r9 r10 r11 : Bool) (r12 : Int) (r13 : Bool) (i0 i1 i2 i3 i4 i5 : Int) (i6 i7 : Bool) (σ : Store) (h : corralref1_Decode.j21 K rr3 w lA lN lC k t20 t21 t22 t23 t24 t25 t26 t27 r0 r1 r2 r3 r4 r5 r6 r7 r8 r9 r10 r11 r12 r13 i0 i1 i2 i3 i4 i5 i6 i7 σ) : corralref1_Decode.S21 K w lA lN lC k t20 t21 t22 t23 t24 t25 t26 t27 r0 r1 r2 r3 r4 r5 r6 r7 r8 r9 r10 r11 r12 r13 i0 i1 i2 i3 i4 i5 i6 i7 σ := by
  rw [← corralref1_Decode.j21_eq] at h
  exact seg_snd Pr_mixed (hsel_sound fun x hx => by
    simp only [List.mem_cons, List.not_mem_nil, or_false] at hx
    subst hx
    exact corralref1_Decode.d3_ok hh3) h
noncomputable def corralref1_Decode.h18 (K : Value → Store → Prop) (rr3 : corralref1_Decode.R3) : Hand := hsel [(21, corralref1_Decode.d21 (corralref1_Decode.j21 K rr3)), (3, corralref1_Decode.d3 rr3)]
theorem corralref1_Decode.j18_eq (K : Value → Store → Prop) (rr3 : corralref1_Decode.R3) (w : Int) (lA : Option Addr) (lN lC : Nat) (k t20 t21 t22 t23 t24 t25 : Int) (t26 t27 : Bool) (r0 : Int) (r1 : ByteArray) (r2 r3 r4 : Int) (r5 r6 : Bool) (r7 : Int) (r8 r9 r10 r11 : Bool) (r12 : Int) (r13 : Bool) (i0 i1 i2 i3 i4 i5 : Int) (i6 i7 : Bool) (σ : Store) : (seg Pr corralref1_Decode.H F.corralref1_Decode corralref1_Decode.T (corralref1_Decode.h18 K rr3) K (corralref1_Decode.T 18) (Ev.cutE corralref1_Decode.H 18 [.v (.int .u32 w), .v (.slice lA lN lC), .v (.int .i64 k)] [[.int .i64 t20, .int .i64 t21, .int .i64 t22, .int .i64 t23, .int .i64 t24, .int .u32 t25, .bool t26, .bool t27], [.int .i64 r0, .string r1, .int .u32 r2, .int .u32 r3, .int .u32 r4, .bool r5, .bool r6, .int .u8 r7, .bool r8, .bool r9, .bool r10, .bool r11, .int .u32 r12, .bool r13], [.int .i64 i0, .int .i64 i1, .int .i64 i2, .int .i64 i3, .int .i64 i4, .int .u32 i5, .bool i6, .bool i7]]) σ) = corralref1_Decode.j18 K rr3 w lA lN lC k t20 t21 t22 t23 t24 t25 t26 t27 r0 r1 r2 r3 r4 r5 r6 r7 r8 r9 r10 r11 r12 r13 i0 i1 i2 i3 i4 i5 i6 i7 σ := by kernel_rfl
theorem corralref1_Decode.j18_ok (K : Value → Store → Prop) (rr3 : corralref1_Decode.R3) (hh3 : ∀ w lA lN lC k t20 t21 t22 t23 t24 t25 t26 t27 σ, rr3 w lA lN lC k t20 t21 t22 t23 t24 t25 t26 t27 σ → corralref1_Decode.S3 K w lA lN lC k t20 t21 t22 t23 t24 t25 t26 t27 σ) (w : Int) (lA : Option Addr) (lN lC : Nat) (k t20 t21 t22 t23 t24 t25 : Int) (t26 t27 : Bool) (r0 : Int) (r1 : ByteArray) (r2 r3 r4 : Int) (r5 r6 : Bool) (r7 : Int) (r8 r9 r10 r11 : Bool) (r12 : Int) (r13 : Bool) (i0 i1 i2 i3 i4 i5 : Int) (i6 i7 : Bool) (σ : Store) (h : corralref1_Decode.j18 K rr3 w lA lN lC k t20 t21 t22 t23 t24 t25 t26 t27 r0 r1 r2 r3 r4 r5 r6 r7 r8 r9 r10 r11 r12 r13 i0 i1 i2 i3 i4 i5 i6 i7 σ) : corralref1_Decode.S18 K w lA lN lC k t20 t21 t22 t23 t24 t25 t26 t27 r0 r1 r2 r3 r4 r5 r6 r7 r8 r9 r10 r11 r12 r13 i0 i1 i2 i3 i4 i5 i6 i7 σ := by
  rw [← corralref1_Decode.j18_eq] at h
  exact seg_snd Pr_mixed (hsel_sound fun x hx => by
    simp only [List.mem_cons, List.not_mem_nil, or_false] at hx
    rcases hx with rfl | rfl
    · exact corralref1_Decode.d21_ok fun _ _ _ _ _ _ _ _ _ _ _ _ _ _ _ _ _ _ _ _ _ _ _ _ _ _ _ _ _ _ _ _ _ _ _ _ h => corralref1_Decode.j21_ok K rr3 hh3 _ _ _ _ _ _ _ _ _ _ _ _ _ _ _ _ _ _ _ _ _ _ _ _ _ _ _ _ _ _ _ _ _ _ _ _ h
    · exact corralref1_Decode.d3_ok hh3) h
noncomputable def corralref1_Decode.h16 (K : Value → Store → Prop) (rr3 : corralref1_Decode.R3) : Hand := hsel [(18, corralref1_Decode.d18 (corralref1_Decode.j18 K rr3)), (3, corralref1_Decode.d3 rr3)]
theorem corralref1_Decode.j16_eq (K : Value → Store → Prop) (rr3 : corralref1_Decode.R3) (w : Int) (lA : Option Addr) (lN lC : Nat) (k t20 t21 t22 t23 t24 t25 : Int) (t26 t27 : Bool) (r0 : Int) (r1 : ByteArray) (r2 r3 r4 : Int) (r5 r6 : Bool) (r7 : Int) (r8 r9 r10 r11 : Bool) (r12 : Int) (r13 : Bool) (i0 i1 i2 i3 i4 i5 : Int) (i6 i7 : Bool) (σ : Store) : (seg Pr corralref1_Decode.H F.corralref1_Decode corralref1_Decode.T (corralref1_Decode.h16 K rr3) K (corralref1_Decode.T 16) (Ev.cutE corralref1_Decode.H 16 [.v (.int .u32 w), .v (.slice lA lN lC), .v (.int .i64 k)] [[.int .i64 t20, .int .i64 t21, .int .i64 t22, .int .i64 t23, .int .i64 t24, .int .u32 t25, .bool t26, .bool t27], [.int .i64 r0, .string r1, .int .u32 r2, .int .u32 r3, .int .u32 r4, .bool r5, .bool r6, .int .u8 r7, .bool r8, .bool r9, .bool r10, .bool r11, .int .u32 r12, .bool r13], [.int .i64 i0, .int .i64 i1, .int .i64 i2, .int .i64 i3, .int .i64 i4, .int .u32 i5, .bool i6, .bool i7]]) σ) = corralref1_Decode.j16 K rr3 w lA lN lC k t20 t21 t22 t23 t24 t25 t26 t27 r0 r1 r2 r3 r4 r5 r6 r7 r8 r9 r10 r11 r12 r13 i0 i1 i2 i3 i4 i5 i6 i7 σ := by kernel_rfl
theorem corralref1_Decode.j16_ok (K : Value → Store → Prop) (rr3 : corralref1_Decode.R3) (hh3 : ∀ w lA lN lC k t20 t21 t22 t23 t24 t25 t26 t27 σ, rr3 w lA lN lC k t20 t21 t22 t23 t24 t25 t26 t27 σ → corralref1_Decode.S3 K w lA lN lC k t20 t21 t22 t23 t24 t25 t26 t27 σ) (w : Int) (lA : Option Addr) (lN lC : Nat) (k t20 t21 t22 t23 t24 t25 : Int) (t26 t27 : Bool) (r0 : Int) (r1 : ByteArray) (r2 r3 r4 : Int) (r5 r6 : Bool) (r7 : Int) (r8 r9 r10 r11 : Bool) (r12 : Int) (r13 : Bool) (i0 i1 i2 i3 i4 i5 : Int) (i6 i7 : Bool) (σ : Store) (h : corralref1_Decode.j16 K rr3 w lA lN lC k t20 t21 t22 t23 t24 t25 t26 t27 r0 r1 r2 r3 r4 r5 r6 r7 r8 r9 r10 r11 r12 r13 i0 i1 i2 i3 i4 i5 i6 i7 σ) : corralref1_Decode.S16 K w lA lN lC k t20 t21 t22 t23 t24 t25 t26 t27 r0 r1 r2 r3 r4 r5 r6 r7 r8 r9 r10 r11 r12 r13 i0 i1 i2 i3 i4 i5 i6 i7 σ := by
  rw [← corralref1_Decode.j16_eq] at h
  exact seg_snd Pr_mixed (hsel_sound fun x hx => by
    simp only [List.mem_cons, List.not_mem_nil, or_false] at hx
    rcases hx with rfl | rfl
    · exact corralref1_Decode.d18_ok fun _ _ _ _ _ _ _ _ _ _ _ _ _ _ _ _ _ _ _ _ _ _ _ _ _ _ _ _ _ _ _ _ _ _ _ _ h => corralref1_Decode.j18_ok K rr3 hh3 _ _ _ _ _ _ _ _ _ _ _ _ _ _ _ _ _ _ _ _ _ _ _ _ _ _ _ _ _ _ _ _ _ _ _ _ h
    · exact corralref1_Decode.d3_ok hh3) h
noncomputable def corralref1_Decode.h14 (K : Value → Store → Prop) (rr3 : corralref1_Decode.R3) : Hand := hsel [(16, corralref1_Decode.d16 (corralref1_Decode.j16 K rr3)), (3, corralref1_Decode.d3 rr3)]
theorem corralref1_Decode.j14_eq (K : Value → Store → Prop) (rr3 : corralref1_Decode.R3) (w : Int) (lA : Option Addr) (lN lC : Nat) (k t20 t21 t22 t23 t24 t25 : Int) (t26 t27 : Bool) (r0 : Int) (r1 : ByteArray) (r2 r3 r4 : Int) (r5 r6 : Bool) (r7 : Int) (r8 r9 r10 r11 : Bool) (r12 : Int) (r13 : Bool) (i0 i1 i2 i3 i4 i5 : Int) (i6 i7 : Bool) (σ : Store) : (seg Pr corralref1_Decode.H F.corralref1_Decode corralref1_Decode.T (corralref1_Decode.h14 K rr3) K (corralref1_Decode.T 14) (Ev.cutE corralref1_Decode.H 14 [.v (.int .u32 w), .v (.slice lA lN lC), .v (.int .i64 k)] [[.int .i64 t20, .int .i64 t21, .int .i64 t22, .int .i64 t23, .int .i64 t24, .int .u32 t25, .bool t26, .bool t27], [.int .i64 r0, .string r1, .int .u32 r2, .int .u32 r3, .int .u32 r4, .bool r5, .bool r6, .int .u8 r7, .bool r8, .bool r9, .bool r10, .bool r11, .int .u32 r12, .bool r13], [.int .i64 i0, .int .i64 i1, .int .i64 i2, .int .i64 i3, .int .i64 i4, .int .u32 i5, .bool i6, .bool i7]]) σ) = corralref1_Decode.j14 K rr3 w lA lN lC k t20 t21 t22 t23 t24 t25 t26 t27 r0 r1 r2 r3 r4 r5 r6 r7 r8 r9 r10 r11 r12 r13 i0 i1 i2 i3 i4 i5 i6 i7 σ := by kernel_rfl
theorem corralref1_Decode.j14_ok (K : Value → Store → Prop) (rr3 : corralref1_Decode.R3) (hh3 : ∀ w lA lN lC k t20 t21 t22 t23 t24 t25 t26 t27 σ, rr3 w lA lN lC k t20 t21 t22 t23 t24 t25 t26 t27 σ → corralref1_Decode.S3 K w lA lN lC k t20 t21 t22 t23 t24 t25 t26 t27 σ) (w : Int) (lA : Option Addr) (lN lC : Nat) (k t20 t21 t22 t23 t24 t25 : Int) (t26 t27 : Bool) (r0 : Int) (r1 : ByteArray) (r2 r3 r4 : Int) (r5 r6 : Bool) (r7 : Int) (r8 r9 r10 r11 : Bool) (r12 : Int) (r13 : Bool) (i0 i1 i2 i3 i4 i5 : Int) (i6 i7 : Bool) (σ : Store) (h : corralref1_Decode.j14 K rr3 w lA lN lC k t20 t21 t22 t23 t24 t25 t26 t27 r0 r1 r2 r3 r4 r5 r6 r7 r8 r9 r10 r11 r12 r13 i0 i1 i2 i3 i4 i5 i6 i7 σ) : corralref1_Decode.S14 K w lA lN lC k t20 t21 t22 t23 t24 t25 t26 t27 r0 r1 r2 r3 r4 r5 r6 r7 r8 r9 r10 r11 r12 r13 i0 i1 i2 i3 i4 i5 i6 i7 σ := by
  rw [← corralref1_Decode.j14_eq] at h
  exact seg_snd Pr_mixed (hsel_sound fun x hx => by
    simp only [List.mem_cons, List.not_mem_nil, or_false] at hx
    rcases hx with rfl | rfl
    · exact corralref1_Decode.d16_ok fun _ _ _ _ _ _ _ _ _ _ _ _ _ _ _ _ _ _ _ _ _ _ _ _ _ _ _ _ _ _ _ _ _ _ _ _ h => corralref1_Decode.j16_ok K rr3 hh3 _ _ _ _ _ _ _ _ _ _ _ _ _ _ _ _ _ _ _ _ _ _ _ _ _ _ _ _ _ _ _ _ _ _ _ _ h
    · exact corralref1_Decode.d3_ok hh3) h
noncomputable def corralref1_Decode.h12 (K : Value → Store → Prop) (rr3 : corralref1_Decode.R3) : Hand := hsel [(14, corralref1_Decode.d14 (corralref1_Decode.j14 K rr3)), (3, corralref1_Decode.d3 rr3)]
theorem corralref1_Decode.j12_eq (K : Value → Store → Prop) (rr3 : corralref1_Decode.R3) (w : Int) (lA : Option Addr) (lN lC : Nat) (k t20 t21 t22 t23 t24 t25 : Int) (t26 t27 : Bool) (r0 : Int) (r1 : ByteArray) (r2 r3 r4 : Int) (r5 r6 : Bool) (r7 : Int) (r8 r9 r10 r11 : Bool) (r12 : Int) (r13 : Bool) (i0 i1 i2 i3 i4 i5 : Int) (i6 i7 : Bool) (σ : Store) : (seg Pr corralref1_Decode.H F.corralref1_Decode corralref1_Decode.T (corralref1_Decode.h12 K rr3) K (corralref1_Decode.T 12) (Ev.cutE corralref1_Decode.H 12 [.v (.int .u32 w), .v (.slice lA lN lC), .v (.int .i64 k)] [[.int .i64 t20, .int .i64 t21, .int .i64 t22, .int .i64 t23, .int .i64 t24, .int .u32 t25, .bool t26, .bool t27], [.int .i64 r0, .string r1, .int .u32 r2, .int .u32 r3, .int .u32 r4, .bool r5, .bool r6, .int .u8 r7, .bool r8, .bool r9, .bool r10, .bool r11, .int .u32 r12, .bool r13], [.int .i64 i0, .int .i64 i1, .int .i64 i2, .int .i64 i3, .int .i64 i4, .int .u32 i5, .bool i6, .bool i7]]) σ) = corralref1_Decode.j12 K rr3 w lA lN lC k t20 t21 t22 t23 t24 t25 t26 t27 r0 r1 r2 r3 r4 r5 r6 r7 r8 r9 r10 r11 r12 r13 i0 i1 i2 i3 i4 i5 i6 i7 σ := by kernel_rfl
theorem corralref1_Decode.j12_ok (K : Value → Store → Prop) (rr3 : corralref1_Decode.R3) (hh3 : ∀ w lA lN lC k t20 t21 t22 t23 t24 t25 t26 t27 σ, rr3 w lA lN lC k t20 t21 t22 t23 t24 t25 t26 t27 σ → corralref1_Decode.S3 K w lA lN lC k t20 t21 t22 t23 t24 t25 t26 t27 σ) (w : Int) (lA : Option Addr) (lN lC : Nat) (k t20 t21 t22 t23 t24 t25 : Int) (t26 t27 : Bool) (r0 : Int) (r1 : ByteArray) (r2 r3 r4 : Int) (r5 r6 : Bool) (r7 : Int) (r8 r9 r10 r11 : Bool) (r12 : Int) (r13 : Bool) (i0 i1 i2 i3 i4 i5 : Int) (i6 i7 : Bool) (σ : Store) (h : corralref1_Decode.j12 K rr3 w lA lN lC k t20 t21 t22 t23 t24 t25 t26 t27 r0 r1 r2 r3 r4 r5 r6 r7 r8 r9 r10 r11 r12 r13 i0 i1 i2 i3 i4 i5 i6 i7 σ) : corralref1_Decode.S12 K w lA lN lC k t20 t21 t22 t23 t24 t25 t26 t27 r0 r1 r2 r3 r4 r5 r6 r7 r8 r9 r10 r11 r12 r13 i0 i1 i2 i3 i4 i5 i6 i7 σ := by
  rw [← corralref1_Decode.j12_eq] at h
  exact seg_snd Pr_mixed (hsel_sound fun x hx => by
    simp only [List.mem_cons, List.not_mem_nil, or_false] at hx
    rcases hx with rfl | rfl
    · exact corralref1_Decode.d14_ok fun _ _ _ _ _ _ _ _ _ _ _ _ _ _ _ _ _ _ _ _ _ _ _ _ _ _ _ _ _ _ _ _ _ _ _ _ h => corralref1_Decode.j14_ok K rr3 hh3 _ _ _ _ _ _ _ _ _ _ _ _ _ _ _ _ _ _ _ _ _ _ _ _ _ _ _ _ _ _ _ _ _ _ _ _ h
    · exact corralref1_Decode.d3_ok hh3) h
noncomputable def corralref1_Decode.h24 (K : Value → Store → Prop) : Hand := hsel []
theorem corralref1_Decode.j24_eq (K : Value → Store → Prop) (t20 t21 t22 t23 t24 t25 : Int) (t26 t27 : Bool) (σ : Store) : (seg Pr corralref1_Decode.H F.corralref1_Decode corralref1_Decode.T (corralref1_Decode.h24 K ) K (corralref1_Decode.T 24) (Ev.cutE corralref1_Decode.H 24 [] [[.int .i64 t20, .int .i64 t21, .int .i64 t22, .int .i64 t23, .int .i64 t24, .int .u32 t25, .bool t26, .bool t27]]) σ) = corralref1_Decode.j24 K t20 t21 t22 t23 t24 t25 t26 t27 σ := by kernel_rfl
theorem corralref1_Decode.j24_ok (K : Value → Store → Prop) (t20 t21 t22 t23 t24 t25 : Int) (t26 t27 : Bool) (σ : Store) (h : corralref1_Decode.j24 K t20 t21 t22 t23 t24 t25 t26 t27 σ) : corralref1_Decode.S24 K t20 t21 t22 t23 t24 t25 t26 t27 σ := by
  rw [← corralref1_Decode.j24_eq] at h
  exact seg_snd Pr_mixed (hsel_sound fun x hx => by
    cases hx) h
noncomputable def corralref1_Decode.h3 (K : Value → Store → Prop) (rr3 : corralref1_Decode.R3) : Hand := hsel [(12, corralref1_Decode.d12 (corralref1_Decode.j12 K rr3)), (24, corralref1_Decode.d24 (corralref1_Decode.j24 K )), (3, corralref1_Decode.d3 rr3)]
theorem corralref1_Decode.b3_eq (K : Value → Store → Prop) (rr3 : corralref1_Decode.R3) (w : Int) (lA : Option Addr) (lN lC : Nat) (k t20 t21 t22 t23 t24 t25 : Int) (t26 t27 : Bool) (σ : Store) : (seg Pr corralref1_Decode.H F.corralref1_Decode corralref1_Decode.T (corralref1_Decode.h3 K rr3) K (corralref1_Decode.T 3) (Ev.cutE corralref1_Decode.H 3 [.v (.int .u32 w), .v (.slice lA lN lC), .v (.int .i64 k)] [[.int .i64 t20, .int .i64 t21, .int .i64 t22, .int .i64 t23, .int .i64 t24, .int .u32 t25, .bool t26, .bool t27]]) σ) = corralref1_Decode.b3 K rr3 w lA lN lC k t20 t21 t22 t23 t24 t25 t26 t27 σ := by kernel_rfl
theorem corralref1_Decode.b3_ok (K : Value → Store → Prop) (rr3 : corralref1_Decode.R3) (hh3 : ∀ w lA lN lC k t20 t21 t22 t23 t24 t25 t26 t27 σ, rr3 w lA lN lC k t20 t21 t22 t23 t24 t25 t26 t27 σ → corralref1_Decode.S3 K w lA lN lC k t20 t21 t22 t23 t24 t25 t26 t27 σ) (w : Int) (lA : Option Addr) (lN lC : Nat) (k t20 t21 t22 t23 t24 t25 : Int) (t26 t27 : Bool) (σ : Store) (h : corralref1_Decode.b3 K rr3 w lA lN lC k t20 t21 t22 t23 t24 t25 t26 t27 σ) : corralref1_Decode.S3 K w lA lN lC k t20 t21 t22 t23 t24 t25 t26 t27 σ := by
  rw [← corralref1_Decode.b3_eq] at h
  exact seg_snd Pr_mixed (hsel_sound fun x hx => by
    simp only [List.mem_cons, List.not_mem_nil, or_false] at hx
    rcases hx with rfl | rfl | rfl
    · exact corralref1_Decode.d12_ok fun _ _ _ _ _ _ _ _ _ _ _ _ _ _ _ _ _ _ _ _ _ _ _ _ _ _ _ _ _ _ _ _ _ _ _ _ h => corralref1_Decode.j12_ok K rr3 hh3 _ _ _ _ _ _ _ _ _ _ _ _ _ _ _ _ _ _ _ _ _ _ _ _ _ _ _ _ _ _ _ _ _ _ _ _ h
    · exact corralref1_Decode.d24_ok fun _ _ _ _ _ _ _ _ _ h => corralref1_Decode.j24_ok K _ _ _ _ _ _ _ _ _ h
    · exact corralref1_Decode.d3_ok hh3) h
theorem corralref1_Decode.l3_ok (K : Value → Store → Prop) : ∀ (n : Nat) (w : Int) (lA : Option Addr) (lN lC : Nat) (k t20 t21 t22 t23 t24 t25 : Int) (t26 t27 : Bool) (σ : Store), corralref1_Decode.l3 K n w lA lN lC k t20 t21 t22 t23 t24 t25 t26 t27 σ → corralref1_Decode.S3 K w lA lN lC k t20 t21 t22 t23 t24 t25 t26 t27 σ
  | 0, _, _, _, _, _, _, _, _, _, _, _, _, _, _, h => h.elim
  | n + 1, _, _, _, _, _, _, _, _, _, _, _, _, _, _, h => corralref1_Decode.b3_ok K (corralref1_Decode.l3 K n) (corralref1_Decode.l3_ok K n) _ _ _ _ _ _ _ _ _ _ _ _ _ _ h
noncomputable def corralref1_Decode.h (K : Value → Store → Prop) : Hand := hsel [(3, corralref1_Decode.d3 fun w lA lN lC k t20 t21 t22 t23 t24 t25 t26 t27 σ => ∃ n : Nat, corralref1_Decode.l3 K n w lA lN lC k t20 t21 t22 t23 t24 t25 t26 t27 σ)]
theorem corralref1_Decode.m_eq (K : Value → Store → Prop) (w : Int) (σ : Store) : (segF Pr corralref1_Decode.H F.corralref1_Decode corralref1_Decode.T (corralref1_Decode.h K) K [.int .u32 w] σ) = corralref1_Decode.m K w σ := by kernel_rfl
theorem corralref1_Decode.ok {K : Value → Store → Prop} {w : Int} {σ : Store} (h : corralref1_Decode.m K w σ) : Spec Pr F.corralref1_Decode [.int .u32 w] σ K := by
  rw [← corralref1_Decode.m_eq] at h
  exact segF_spec Pr_mixed (hsel_sound fun x hx => by
    simp only [List.mem_cons, List.not_mem_nil, or_false] at hx
    subst hx
    exact corralref1_Decode.d3_ok fun _ _ _ _ _ _ _ _ _ _ _ _ _ _ ⟨n, h⟩ => corralref1_Decode.l3_ok K n _ _ _ _ _ _ _ _ _ _ _ _ _ _ h) h

/-! ### corral/corralref1.Encode -/
def corralref1_Encode.H : Hints := { esc := [], cuts := [(6, [58], [(1, 24), (4, 38)]), (7, [], [(1, 24), (4, 38)]), (8, [119], [(1, 24), (4, 38)]), (9, [], [(1, 24), (4, 38)])] }
noncomputable def corralref1_Encode.T : Nat → List Item := stk Pr F.corralref1_Encode [(6, [1, 1, 1, 1, 0, 1]), (7, [1, 1, 1, 1, 1]), (8, [1, 1, 1, 1, 1, 0, 1]), (9, [1, 1, 1, 1, 1, 1])]
abbrev corralref1_Encode.R9 : Type := Int → Int → Int → Int → Int → Int → Bool → Bool → Int → ByteArray → Int → Int → Int → Bool → Bool → Int → Bool → Bool → Bool → Bool → Int → Bool → Store → Prop
abbrev corralref1_Encode.R8 : Type := Bool → Int → Int → Int → Int → Int → Int → Bool → Bool → Int → ByteArray → Int → Int → Int → Bool → Bool → Int → Bool → Bool → Bool → Bool → Int → Bool → Store → Prop
abbrev corralref1_Encode.R7 : Type := Int → Int → Int → Int → Int → Int → Bool → Bool → Int → ByteArray → Int → Int → Int → Bool → Bool → Int → Bool → Bool → Bool → Bool → Int → Bool → Store → Prop
abbrev corralref1_Encode.R6 : Type := Bool → Int → Int → Int → Int → Int → Int → Bool → Bool → Int → ByteArray → Int → Int → Int → Bool → Bool → Int → Bool → Bool → Bool → Bool → Int → Bool → Store → Prop
def corralref1_Encode.d9 (g : corralref1_Encode.R9) : List AV → List (List Value) → Store → Prop
  | [], [[.int .i64 i0, .int .i64 i1, .int .i64 i2, .int .i64 i3, .int .i64 i4, .int .u32 i5, .bool i6, .bool i7], [.int .i64 r0, .string r1, .int .u32 r2, .int .u32 r3, .int .u32 r4, .bool r5, .bool r6, .int .u8 r7, .bool r8, .bool r9, .bool r10, .bool r11, .int .u32 r12, .bool r13]], σ => g i0 i1 i2 i3 i4 i5 i6 i7 r0 r1 r2 r3 r4 r5 r6 r7 r8 r9 r10 r11 r12 r13 σ
  | _, _, _ => False
def corralref1_Encode.S9 (K : Value → Store → Prop) (i0 i1 i2 i3 i4 i5 : Int) (i6 i7 : Bool) (r0 : Int) (r1 : ByteArray) (r2 r3 r4 : Int) (r5 r6 : Bool) (r7 : Int) (r8 r9 r10 r11 : Bool) (r12 : Int) (r13 : Bool) (σ : Store) : Prop := SndF Pr F.corralref1_Encode corralref1_Encode.H corralref1_Encode.T K 9 [] [[.int .i64 i0, .int .i64 i1, .int .i64 i2, .int .i64 i3, .int .i64 i4, .int .u32 i5, .bool i6, .bool i7], [.int .i64 r0, .string r1, .int .u32 r2, .int .u32 r3, .int .u32 r4, .bool r5, .bool r6, .int .u8 r7, .bool r8, .bool r9, .bool r10, .bool r11, .int .u32 r12, .bool r13]] σ
def corralref1_Encode.j9 (K : Value → Store → Prop) (i0 i1 i2 i3 i4 i5 : Int) (i6 i7 : Bool) (r0 : Int) (r1 : ByteArray) (r2 r3 r4 : Int) (r5 r6 : Bool) (r7 : Int) (r8 r9 r10 r11 : Bool) (r12 : Int) (r13 : Bool) (σ : Store) : Prop :=
  Spec Pr F.corralref1_word [.agg #[.int .i64 r0, .string r1, .int .u32 r2, .int .u32 r3, .int .u32 r4, .bool r5, .bool r6, .int .u8 r7, .bool r8, .bool r9, .bool r10, .bool r11, .int .u32 r12, .bool r13], .agg #[.int .i64 i0, .int .i64 i1, .int .i64 i2, .int .i64 i3, .int .i64 i4, .int .u32 i5, .bool i6, .bool i7]] σ fun v σ_ => ∃ t122 : Int, v = .int .u32 t122 ∧
  K (.tuple #[.int .u32 t122, .int .i64 0]) σ_
def corralref1_Encode.d8 (g : corralref1_Encode.R8) : List AV → List (List Value) → Store → Prop
  | [.v (.bool t119)], [[.int .i64 i0, .int .i64 i1, .int .i64 i2, .int .i64 i3, .int .i64 i4, .int .u32 i5, .bool i6, .bool i7], [.int .i64 r0, .string r1, .int .u32 r2, .int .u32 r3, .int .u32 r4, .bool r5, .bool r6, .int .u8 r7, .bool r8, .bool r9, .bool r10, .bool r11, .int .u32 r12, .bool r13]], σ => g t119 i0 i1 i2 i3 i4 i5 i6 i7 r0 r1 r2 r3 r4 r5 r6 r7 r8 r9 r10 r11 r12 r13 σ
  | _, _, _ => False
def corralref1_Encode.S8 (K : Value → Store → Prop) (t119 : Bool) (i0 i1 i2 i3 i4 i5 : Int) (i6 i7 : Bool) (r0 : Int) (r1 : ByteArray) (r2 r3 r4 : Int) (r5 r6 : Bool) (r7 : Int) (r8 r9 r10 r11 : Bool) (r12 : Int) (r13 : Bool) (σ : Store) : Prop := SndF Pr F.corralref1_Encode corralref1_Encode.H corralref1_Encode.T K 8 [.v (.bool t119)] [[.int .i64 i0, .int .i64 i1, .int .i64 i2, .int .i64 i3, .int .i64 i4, .int .u32 i5, .bool i6, .bool i7], [.int .i64 r0, .string r1, .int .u32 r2, .int .u32 r3, .int .u32 r4, .bool r5, .bool r6, .int .u8 r7, .bool r8, .bool r9, .bool r10, .bool r11, .int .u32 r12, .bool r13]] σ
def corralref1_Encode.j8 (K : Value → Store → Prop) (t119 : Bool) (i0 i1 i2 i3 i4 i5 : Int) (i6 i7 : Bool) (r0 : Int) (r1 : ByteArray) (r2 r3 r4 : Int) (r5 r6 : Bool) (r7 : Int) (r8 r9 r10 r11 : Bool) (r12 : Int) (r13 : Bool) (σ : Store) : Prop :=
  cond t119
  (K (.tuple #[.int .u32 0, .int .i64 104]) σ)
  (Hop (corralref1_Encode.T 9) (corralref1_Encode.T 9) (corralref1_Encode.j9 K i0 i1 i2 i3 i4 i5 i6 i7 r0 r1 r2 r3 r4 r5 r6 r7 r8 r9 r10 r11 r12 r13 σ))
def corralref1_Encode.d7 (g : corralref1_Encode.R7) : List AV → List (List Value) → Store → Prop
  | [], [[.int .i64 i0, .int .i64 i1, .int .i64 i2, .int .i64 i3, .int .i64 i4, .int .u32 i5, .bool i6, .bool i7], [.int .i64 r0, .string r1, .int .u32 r2, .int .u32 r3, .int .u32 r4, .bool r5, .bool r6, .int .u8 r7, .bool r8, .bool r9, .bool r10, .bool r11, .int .u32 r12, .bool r13]], σ => g i0 i1 i2 i3 i4 i5 i6 i7 r0 r1 r2 r3 r4 r5 r6 r7 r8 r9 r10 r11 r12 r13 σ
  | _, _, _ => False
def corralref1_Encode.S7 (K : Value → Store → Prop) (i0 i1 i2 i3 i4 i5 : Int) (i6 i7 : Bool) (r0 : Int) (r1 : ByteArray) (r2 r3 r4 : Int) (r5 r6 : Bool) (r7 : Int) (r8 r9 r10 r11 : Bool) (r12 : Int) (r13 : Bool) (σ : Store) : Prop := SndF Pr F.corralref1_Encode corralref1_Encode.H corralref1_Encode.T K 7 [] [[.int .i64 i0, .int .i64 i1, .int .i64 i2, .int .i64 i3, .int .i64 i4, .int .u32 i5, .bool i6, .bool i7], [.int .i64 r0, .string r1, .int .u32 r2, .int .u32 r3, .int .u32 r4, .bool r5, .bool r6, .int .u8 r7, .bool r8, .bool r9, .bool r10, .bool r11, .int .u32 r12, .bool r13]] σ
def corralref1_Encode.j7 (K : Value → Store → Prop) (i0 i1 i2 i3 i4 i5 : Int) (i6 i7 : Bool) (r0 : Int) (r1 : ByteArray) (r2 r3 r4 : Int) (r5 r6 : Bool) (r7 : Int) (r8 r9 r10 r11 : Bool) (r12 : Int) (r13 : Bool) (σ : Store) : Prop :=
  cond (!r8)
  (cond (i1 != 0)
    (Hop (corralref1_Encode.T 8) (corralref1_Encode.T 8) (corralref1_Encode.j8 K true i0 i1 i2 i3 i4 i5 i6 i7 r0 r1 r2 r3 r4 r5 r6 r7 r8 r9 r10 r11 r12 r13 σ))
    (cond (!r9)
      (cond (i2 != 0)
        (Hop (corralref1_Encode.T 8) (corralref1_Encode.T 8) (corralref1_Encode.j8 K true i0 i1 i2 i3 i4 i5 i6 i7 r0 r1 r2 r3 r4 r5 r6 r7 r8 r9 r10 r11 r12 r13 σ))
        (cond (!r10)
          (cond (i3 != 0)
            (Hop (corralref1_Encode.T 8) (corralref1_Encode.T 8) (corralref1_Encode.j8 K true i0 i1 i2 i3 i4 i5 i6 i7 r0 r1 r2 r3 r4 r5 r6 r7 r8 r9 r10 r11 r12 r13 σ))
            (cond (!r11)
              (cond (i4 != 0)
                (Hop (corralref1_Encode.T 8) (corralref1_Encode.T 8) (corralref1_Encode.j8 K true i0 i1 i2 i3 i4 i5 i6 i7 r0 r1 r2 r3 r4 r5 r6 r7 r8 r9 r10 r11 r12 r13 σ))
                (cond (r7 == 0)
                  (cond (i5 != 0)
                    (Hop (corralref1_Encode.T 8) (corralref1_Encode.T 8) (corralref1_Encode.j8 K true i0 i1 i2 i3 i4 i5 i6 i7 r0 r1 r2 r3 r4 r5 r6 r7 r8 r9 r10 r11 r12 r13 σ))
                    (cond (!r13)
                      (cond i6
                        (Hop (corralref1_Encode.T 8) (corralref1_Encode.T 8) (corralref1_Encode.j8 K true i0 i1 i2 i3 i4 i5 i6 i7 r0 r1 r2 r3 r4 r5 r6 r7 r8 r9 r10 r11 r12 r13 σ))
                        (Hop (corralref1_Encode.T 8) (corralref1_Encode.T 8) (corralref1_Encode.j8 K i7 i0 i1 i2 i3 i4 i5 i6 i7 r0 r1 r2 r3 r4 r5 r6 r7 r8 r9 r10 r11 r12 r13 σ)))
                      (Hop (corralref1_Encode.T 8) (corralref1_Encode.T 8) (corralref1_Encode.j8 K false i0 i1 i2 i3 i4 i5 i6 i7 r0 r1 r2 r3 r4 r5 r6 r7 r8 r9 r10 r11 r12 r13 σ))))
                  (cond (!r13)
                    (cond i6
                      (Hop (corralref1_Encode.T 8) (corralref1_Encode.T 8) (corralref1_Encode.j8 K true i0 i1 i2 i3 i4 i5 i6 i7 r0 r1 r2 r3 r4 r5 r6 r7 r8 r9 r10 r11 r12 r13 σ))
                      (Hop (corralref1_Encode.T 8) (corralref1_Encode.T 8) (corralref1_Encode.j8 K i7 i0 i1 i2 i3 i4 i5 i6 i7 r0 r1 r2 r3 r4 r5 r6 r7 r8 r9 r10 r11 r12 r13 σ)))
                    (Hop (corralref1_Encode.T 8) (corralref1_Encode.T 8) (corralref1_Encode.j8 K false i0 i1 i2 i3 i4 i5 i6 i7 r0 r1 r2 r3 r4 r5 r6 r7 r8 r9 r10 r11 r12 r13 σ)))))
              (cond (r7 == 0)
                (cond (i5 != 0)
                  (Hop (corralref1_Encode.T 8) (corralref1_Encode.T 8) (corralref1_Encode.j8 K true i0 i1 i2 i3 i4 i5 i6 i7 r0 r1 r2 r3 r4 r5 r6 r7 r8 r9 r10 r11 r12 r13 σ))
                  (cond (!r13)
                    (cond i6
                      (Hop (corralref1_Encode.T 8) (corralref1_Encode.T 8) (corralref1_Encode.j8 K true i0 i1 i2 i3 i4 i5 i6 i7 r0 r1 r2 r3 r4 r5 r6 r7 r8 r9 r10 r11 r12 r13 σ))
                      (Hop (corralref1_Encode.T 8) (corralref1_Encode.T 8) (corralref1_Encode.j8 K i7 i0 i1 i2 i3 i4 i5 i6 i7 r0 r1 r2 r3 r4 r5 r6 r7 r8 r9 r10 r11 r12 r13 σ)))
                    (Hop (corralref1_Encode.T 8) (corralref1_Encode.T 8) (corralref1_Encode.j8 K false i0 i1 i2 i3 i4 i5 i6 i7 r0 r1 r2 r3 r4 r5 r6 r7 r8 r9 r10 r11 r12 r13 σ))))
                (cond (!r13)
                  (cond i6
                    (Hop (corralref1_Encode.T 8) (corralref1_Encode.T 8) (corralref1_Encode.j8 K true i0 i1 i2 i3 i4 i5 i6 i7 r0 r1 r2 r3 r4 r5 r6 r7 r8 r9 r10 r11 r12 r13 σ))
                    (Hop (corralref1_Encode.T 8) (corralref1_Encode.T 8) (corralref1_Encode.j8 K i7 i0 i1 i2 i3 i4 i5 i6 i7 r0 r1 r2 r3 r4 r5 r6 r7 r8 r9 r10 r11 r12 r13 σ)))
                  (Hop (corralref1_Encode.T 8) (corralref1_Encode.T 8) (corralref1_Encode.j8 K false i0 i1 i2 i3 i4 i5 i6 i7 r0 r1 r2 r3 r4 r5 r6 r7 r8 r9 r10 r11 r12 r13 σ))))))
          (cond (!r11)
            (cond (i4 != 0)
              (Hop (corralref1_Encode.T 8) (corralref1_Encode.T 8) (corralref1_Encode.j8 K true i0 i1 i2 i3 i4 i5 i6 i7 r0 r1 r2 r3 r4 r5 r6 r7 r8 r9 r10 r11 r12 r13 σ))
              (cond (r7 == 0)
                (cond (i5 != 0)
                  (Hop (corralref1_Encode.T 8) (corralref1_Encode.T 8) (corralref1_Encode.j8 K true i0 i1 i2 i3 i4 i5 i6 i7 r0 r1 r2 r3 r4 r5 r6 r7 r8 r9 r10 r11 r12 r13 σ))
                  (cond (!r13)
                    (cond i6
                      (Hop (corralref1_Encode.T 8) (corralref1_Encode.T 8) (corralref1_Encode.j8 K true i0 i1 i2 i3 i4 i5 i6 i7 r0 r1 r2 r3 r4 r5 r6 r7 r8 r9 r10 r11 r12 r13 σ))
                      (Hop (corralref1_Encode.T 8) (corralref1_Encode.T 8) (corralref1_Encode.j8 K i7 i0 i1 i2 i3 i4 i5 i6 i7 r0 r1 r2 r3 r4 r5 r6 r7 r8 r9 r10 r11 r12 r13 σ)))
                    (Hop (corralref1_Encode.T 8) (corralref1_Encode.T 8) (corralref1_Encode.j8 K false i0 i1 i2 i3 i4 i5 i6 i7 r0 r1 r2 r3 r4 r5 r6 r7 r8 r9 r10 r11 r12 r13 σ))))
                (cond (!r13)
                  (cond i6
                    (Hop (corralref1_Encode.T 8) (corralref1_Encode.T 8) (corralref1_Encode.j8 K true i0 i1 i2 i3 i4 i5 i6 i7 r0 r1 r2 r3 r4 r5 r6 r7 r8 r9 r10 r11 r12 r13 σ))
                    (Hop (corralref1_Encode.T 8) (corralref1_Encode.T 8) (corralref1_Encode.j8 K i7 i0 i1 i2 i3 i4 i5 i6 i7 r0 r1 r2 r3 r4 r5 r6 r7 r8 r9 r10 r11 r12 r13 σ)))
                  (Hop (corralref1_Encode.T 8) (corralref1_Encode.T 8) (corralref1_Encode.j8 K false i0 i1 i2 i3 i4 i5 i6 i7 r0 r1 r2 r3 r4 r5 r6 r7 r8 r9 r10 r11 r12 r13 σ)))))
            (cond (r7 == 0)
              (cond (i5 != 0)
                (Hop (corralref1_Encode.T 8) (corralref1_Encode.T 8) (corralref1_Encode.j8 K true i0 i1 i2 i3 i4 i5 i6 i7 r0 r1 r2 r3 r4 r5 r6 r7 r8 r9 r10 r11 r12 r13 σ))
                (cond (!r13)
                  (cond i6
                    (Hop (corralref1_Encode.T 8) (corralref1_Encode.T 8) (corralref1_Encode.j8 K true i0 i1 i2 i3 i4 i5 i6 i7 r0 r1 r2 r3 r4 r5 r6 r7 r8 r9 r10 r11 r12 r13 σ))
                    (Hop (corralref1_Encode.T 8) (corralref1_Encode.T 8) (corralref1_Encode.j8 K i7 i0 i1 i2 i3 i4 i5 i6 i7 r0 r1 r2 r3 r4 r5 r6 r7 r8 r9 r10 r11 r12 r13 σ)))
                  (Hop (corralref1_Encode.T 8) (corralref1_Encode.T 8) (corralref1_Encode.j8 K false i0 i1 i2 i3 i4 i5 i6 i7 r0 r1 r2 r3 r4 r5 r6 r7 r8 r9 r10 r11 r12 r13 σ))))
              (cond (!r13)
                (cond i6
                  (Hop (corralref1_Encode.T 8) (corralref1_Encode.T 8) (corralref1_Encode.j8 K true i0 i1 i2 i3 i4 i5 i6 i7 r0 r1 r2 r3 r4 r5 r6 r7 r8 r9 r10 r11 r12 r13 σ))
                  (Hop (corralref1_Encode.T 8) (corralref1_Encode.T 8) (corralref1_Encode.j8 K i7 i0 i1 i2 i3 i4 i5 i6 i7 r0 r1 r2 r3 r4 r5 r6 r7 r8 r9 r10 r11 r12 r13 σ)))
                (Hop (corralref1_Encode.T 8) (corralref1_Encode.T 8) (corralref1_Encode.j8 K false i0 i1 i2 i3 i4 i5 i6 i7 r0 r1 r2 r3 r4 r5 r6 r7 r8 r9 r10 r11 r12 r13 σ)))))))
      (cond (!r10)
        (cond (i3 != 0)
          (Hop (corralref1_Encode.T 8) (corralref1_Encode.T 8) (corralref1_Encode.j8 K true i0 i1 i2 i3 i4 i5 i6 i7 r0 r1 r2 r3 r4 r5 r6 r7 r8 r9 r10 r11 r12 r13 σ))
          (cond (!r11)
            (cond (i4 != 0)
              (Hop (corralref1_Encode.T 8) (corralref1_Encode.T 8) (corralref1_Encode.j8 K true i0 i1 i2 i3 i4 i5 i6 i7 r0 r1 r2 r3 r4 r5 r6 r7 r8 r9 r10 r11 r12 r13 σ))
              (cond (r7 == 0)
                (cond (i5 != 0)
                  (Hop (corralref1_Encode.T 8) (corralref1_Encode.T 8) (corralref1_Encode.j8 K true i0 i1 i2 i3 i4 i5 i6 i7 r0 r1 r2 r3 r4 r5 r6 r7 r8 r9 r10 r11 r12 r13 σ))
                  (cond (!r13)
                    (cond i6
                      (Hop (corralref1_Encode.T 8) (corralref1_Encode.T 8) (corralref1_Encode.j8 K true i0 i1 i2 i3 i4 i5 i6 i7 r0 r1 r2 r3 r4 r5 r6 r7 r8 r9 r10 r11 r12 r13 σ))
                      (Hop (corralref1_Encode.T 8) (corralref1_Encode.T 8) (corralref1_Encode.j8 K i7 i0 i1 i2 i3 i4 i5 i6 i7 r0 r1 r2 r3 r4 r5 r6 r7 r8 r9 r10 r11 r12 r13 σ)))
                    (Hop (corralref1_Encode.T 8) (corralref1_Encode.T 8) (corralref1_Encode.j8 K false i0 i1 i2 i3 i4 i5 i6 i7 r0 r1 r2 r3 r4 r5 r6 r7 r8 r9 r10 r11 r12 r13 σ))))
                (cond (!r13)
                  (cond i6
                    (Hop (corralref1_Encode.T 8) (corralref1_Encode.T 8) (corralref1_Encode.j8 K true i0 i1 i2 i3 i4 i5 i6 i7 r0 r1 r2 r3 r4 r5 r6 r7 r8 r9 r10 r11 r12 r13 σ))
                    (Hop (corralref1_Encode.T 8) (corralref1_Encode.T 8) (corralref1_Encode.j8 K i7 i0 i1 i2 i3 i4 i5 i6 i7 r0 r1 r2 r3 r4 r5 r6 r7 r8 r9 r10 r11 r12 r13 σ)))
                  (Hop (corralref1_Encode.T 8) (corralref1_Encode.T 8) (corralref1_Encode.j8 K false i0 i1 i2 i3 i4 i5 i6 i7 r0 r1 r2 r3 r4 r5 r6 r7 r8 r9 r10 r11 r12 r13 σ)))))
            (cond (r7 == 0)
              (cond (i5 != 0)
                (Hop (corralref1_Encode.T 8) (corralref1_Encode.T 8) (corralref1_Encode.j8 K true i0 i1 i2 i3 i4 i5 i6 i7 r0 r1 r2 r3 r4 r5 r6 r7 r8 r9 r10 r11 r12 r13 σ))
                (cond (!r13)
                  (cond i6
                    (Hop (corralref1_Encode.T 8) (corralref1_Encode.T 8) (corralref1_Encode.j8 K true i0 i1 i2 i3 i4 i5 i6 i7 r0 r1 r2 r3 r4 r5 r6 r7 r8 r9 r10 r11 r12 r13 σ))
                    (Hop (corralref1_Encode.T 8) (corralref1_Encode.T 8) (corralref1_Encode.j8 K i7 i0 i1 i2 i3 i4 i5 i6 i7 r0 r1 r2 r3 r4 r5 r6 r7 r8 r9 r10 r11 r12 r13 σ)))
                  (Hop (corralref1_Encode.T 8) (corralref1_Encode.T 8) (corralref1_Encode.j8 K false i0 i1 i2 i3 i4 i5 i6 i7 r0 r1 r2 r3 r4 r5 r6 r7 r8 r9 r10 r11 r12 r13 σ))))
              (cond (!r13)
                (cond i6
                  (Hop (corralref1_Encode.T 8) (corralref1_Encode.T 8) (corralref1_Encode.j8 K true i0 i1 i2 i3 i4 i5 i6 i7 r0 r1 r2 r3 r4 r5 r6 r7 r8 r9 r10 r11 r12 r13 σ))
                  (Hop (corralref1_Encode.T 8) (corralref1_Encode.T 8) (corralref1_Encode.j8 K i7 i0 i1 i2 i3 i4 i5 i6 i7 r0 r1 r2 r3 r4 r5 r6 r7 r8 r9 r10 r11 r12 r13 σ)))
                (Hop (corralref1_Encode.T 8) (corralref1_Encode.T 8) (corralref1_Encode.j8 K false i0 i1 i2 i3 i4 i5 i6 i7 r0 r1 r2 r3 r4 r5 r6 r7 r8 r9 r10 r11 r12 r13 σ))))))
        (cond (!r11)
          (cond (i4 != 0)
            (Hop (corralref1_Encode.T 8) (corralref1_Encode.T 8) (corralref1_Encode.j8 K true i0 i1 i2 i3 i4 i5 i6 i7 r0 r1 r2 r3 r4 r5 r6 r7 r8 r9 r10 r11 r12 r13 σ))
            (cond (r7 == 0)
              (cond (i5 != 0)
                (Hop (corralref1_Encode.T 8) (corralref1_Encode.T 8) (corralref1_Encode.j8 K true i0 i1 i2 i3 i4 i5 i6 i7 r0 r1 r2 r3 r4 r5 r6 r7 r8 r9 r10 r11 r12 r13 σ))
                (cond (!r13)
                  (cond i6
                    (Hop (corralref1_Encode.T 8) (corralref1_Encode.T 8) (corralref1_Encode.j8 K true i0 i1 i2 i3 i4 i5 i6 i7 r0 r1 r2 r3 r4 r5 r6 r7 r8 r9 r10 r11 r12 r13 σ))
                    (Hop (corralref1_Encode.T 8) (corralref1_Encode.T 8) (corralref1_Encode.j8 K i7 i0 i1 i2 i3 i4 i5 i6 i7 r0 r1 r2 r3 r4 r5 r6 r7 r8 r9 r10 r11 r12 r13 σ)))
                  (Hop (corralref1_Encode.T 8) (corralref1_Encode.T 8) (corralref1_Encode.j8 K false i0 i1 i2 i3 i4 i5 i6 i7 r0 r1 r2 r3 r4 r5 r6 r7 r8 r9 r10 r11 r12 r13 σ))))
              (cond (!r13)
                (cond i6
                  (Hop (corralref1_Encode.T 8) (corralref1_Encode.T 8) (corralref1_Encode.j8 K true i0 i1 i2 i3 i4 i5 i6 i7 r0 r1 r2 r3 r4 r5 r6 r7 r8 r9 r10 r11 r12 r13 σ))
                  (Hop (corralref1_Encode.T 8) (corralref1_Encode.T 8) (corralref1_Encode.j8 K i7 i0 i1 i2 i3 i4 i5 i6 i7 r0 r1 r2 r3 r4 r5 r6 r7 r8 r9 r10 r11 r12 r13 σ)))
                (Hop (corralref1_Encode.T 8) (corralref1_Encode.T 8) (corralref1_Encode.j8 K false i0 i1 i2 i3 i4 i5 i6 i7 r0 r1 r2 r3 r4 r5 r6 r7 r8 r9 r10 r11 r12 r13 σ)))))
          (cond (r7 == 0)
            (cond (i5 != 0)
              (Hop (corralref1_Encode.T 8) (corralref1_Encode.T 8) (corralref1_Encode.j8 K true i0 i1 i2 i3 i4 i5 i6 i7 r0 r1 r2 r3 r4 r5 r6 r7 r8 r9 r10 r11 r12 r13 σ))
              (cond (!r13)
                (cond i6
                  (Hop (corralref1_Encode.T 8) (corralref1_Encode.T 8) (corralref1_Encode.j8 K true i0 i1 i2 i3 i4 i5 i6 i7 r0 r1 r2 r3 r4 r5 r6 r7 r8 r9 r10 r11 r12 r13 σ))
                  (Hop (corralref1_Encode.T 8) (corralref1_Encode.T 8) (corralref1_Encode.j8 K i7 i0 i1 i2 i3 i4 i5 i6 i7 r0 r1 r2 r3 r4 r5 r6 r7 r8 r9 r10 r11 r12 r13 σ)))
                (Hop (corralref1_Encode.T 8) (corralref1_Encode.T 8) (corralref1_Encode.j8 K false i0 i1 i2 i3 i4 i5 i6 i7 r0 r1 r2 r3 r4 r5 r6 r7 r8 r9 r10 r11 r12 r13 σ))))
            (cond (!r13)
              (cond i6
                (Hop (corralref1_Encode.T 8) (corralref1_Encode.T 8) (corralref1_Encode.j8 K true i0 i1 i2 i3 i4 i5 i6 i7 r0 r1 r2 r3 r4 r5 r6 r7 r8 r9 r10 r11 r12 r13 σ))
                (Hop (corralref1_Encode.T 8) (corralref1_Encode.T 8) (corralref1_Encode.j8 K i7 i0 i1 i2 i3 i4 i5 i6 i7 r0 r1 r2 r3 r4 r5 r6 r7 r8 r9 r10 r11 r12 r13 σ)))
              (Hop (corralref1_Encode.T 8) (corralref1_Encode.T 8) (corralref1_Encode.j8 K false i0 i1 i2 i3 i4 i5 i6 i7 r0 r1 r2 r3 r4 r5 r6 r7 r8 r9 r10 r11 r12 r13 σ))))))))
  (cond (!r9)
    (cond (i2 != 0)
      (Hop (corralref1_Encode.T 8) (corralref1_Encode.T 8) (corralref1_Encode.j8 K true i0 i1 i2 i3 i4 i5 i6 i7 r0 r1 r2 r3 r4 r5 r6 r7 r8 r9 r10 r11 r12 r13 σ))
      (cond (!r10)
        (cond (i3 != 0)
          (Hop (corralref1_Encode.T 8) (corralref1_Encode.T 8) (corralref1_Encode.j8 K true i0 i1 i2 i3 i4 i5 i6 i7 r0 r1 r2 r3 r4 r5 r6 r7 r8 r9 r10 r11 r12 r13 σ))
          (cond (!r11)
            (cond (i4 != 0)
              (Hop (corralref1_Encode.T 8) (corralref1_Encode.T 8) (corralref1_Encode.j8 K true i0 i1 i2 i3 i4 i5 i6 i7 r0 r1 r2 r3 r4 r5 r6 r7 r8 r9 r10 r11 r12 r13 σ))
              (cond (r7 == 0)
                (cond (i5 != 0)
                  (Hop (corralref1_Encode.T 8) (corralref1_Encode.T 8) (corralref1_Encode.j8 K true i0 i1 i2 i3 i4 i5 i6 i7 r0 r1 r2 r3 r4 r5 r6 r7 r8 r9 r10 r11 r12 r13 σ))
                  (cond (!r13)
                    (cond i6
                      (Hop (corralref1_Encode.T 8) (corralref1_Encode.T 8) (corralref1_Encode.j8 K true i0 i1 i2 i3 i4 i5 i6 i7 r0 r1 r2 r3 r4 r5 r6 r7 r8 r9 r10 r11 r12 r13 σ))
                      (Hop (corralref1_Encode.T 8) (corralref1_Encode.T 8) (corralref1_Encode.j8 K i7 i0 i1 i2 i3 i4 i5 i6 i7 r0 r1 r2 r3 r4 r5 r6 r7 r8 r9 r10 r11 r12 r13 σ)))
                    (Hop (corralref1_Encode.T 8) (corralref1_Encode.T 8) (corralref1_Encode.j8 K false i0 i1 i2 i3 i4 i5 i6 i7 r0 r1 r2 r3 r4 r5 r6 r7 r8 r9 r10 r11 r12 r13 σ))))
                (cond (!r13)
                  (cond i6
                    (Hop (corralref1_Encode.T 8) (corralref1_Encode.T 8) (corralref1_Encode.j8 K true i0 i1 i2 i3 i4 i5 i6 i7 r0 r1 r2 r3 r4 r5 r6 r7 r8 r9 r10 r11 r12 r13 σ))
                    (Hop (corralref1_Encode.T 8) (corralref1_Encode.T 8) (corralref1_Encode.j8 K i7 i0 i1 i2 i3 i4 i5 i6 i7 r0 r1 r2 r3 r4 r5 r6 r7 r8 r9 r10 r11 r12 r13 σ)))
                  (Hop (corralref1_Encode.T 8) (corralref1_Encode.T 8) (corralref1_Encode.j8 K false i0 i1 i2 i3 i4 i5 i6 i7 r0 r1 r2 r3 r4 r5 r6 r7 r8 r9 r10 r11 r12 r13 σ)))))
            (cond (r7 == 0)
              (cond (i5 != 0)
                (Hop (corralref1_Encode.T 8) (corralref1_Encode.T 8) (corralref1_Encode.j8 K true i0 i1 i2 i3 i4 i5 i6 i7 r0 r1 r2 r3 r4 r5 r6 r7 r8 r9 r10 r11 r12 r13 σ))
                (cond (!r13)
                  (cond i6
                    (Hop (corralref1_Encode.T 8) (corralref1_Encode.T 8) (corralref1_Encode.j8 K true i0 i1 i2 i3 i4 i5 i6 i7 r0 r1 r2 r3 r4 r5 r6 r7 r8 r9 r10 r11 r12 r13 σ))
                    (Hop (corralref1_Encode.T 8) (corralref1_Encode.T 8) (corralref1_Encode.j8 K i7 i0 i1 i2 i3 i4 i5 i6 i7 r0 r1 r2 r3 r4 r5 r6 r7 r8 r9 r10 r11 r12 r13 σ)))
                  (Hop (corralref1_Encode.T 8) (corralref1_Encode.T 8) (corralref1_Encode.j8 K false i0 i1 i2 i3 i4 i5 i6 i7 r0 r1 r2 r3 r4 r5 r6 r7 r8 r9 r10 r11 r12 r13 σ))))
              (cond (!r13)
                (cond i6
                  (Hop (corralref1_Encode.T 8) (corralref1_Encode.T 8) (corralref1_Encode.j8 K true i0 i1 i2 i3 i4 i5 i6 i7 r0 r1 r2 r3 r4 r5 r6 r7 r8 r9 r10 r11 r12 r13 σ))
                  (Hop (corralref1_Encode.T 8) (corralref1_Encode.T 8) (corralref1_Encode.j8 K i7 i0 i1 i2 i3 i4 i5 i6 i7 r0 r1 r2 r3 r4 r5 r6 r7 r8 r9 r10 r11 r12 r13 σ)))
                (Hop (corralref1_Encode.T 8) (corralref1_Encode.T 8) (corralref1_Encode.j8 K false i0 i1 i2 i3 i4 i5 i6 i7 r0 r1 r2 r3 r4 r5 r6 r7 r8 r9 r10 r11 r12 r13 σ))))))
        (cond (!r11)
          (cond (i4 != 0)
            (Hop (corralref1_Encode.T 8) (corralref1_Encode.T 8) (corralref1_Encode.j8 K true i0 i1 i2 i3 i4 i5 i6 i7 r0 r1 r2 r3 r4 r5 r6 r7 r8 r9 r10 r11 r12 r13 σ))
            (cond (r7 == 0)
              (cond (i5 != 0)
                (Hop (corralref1_Encode.T 8) (corralref1_Encode.T 8) (corralref1_Encode.j8 K true i0 i1 i2 i3 i4 i5 i6 i7 r0 r1 r2 r3 r4 r5 r6 r7 r8 r9 r10 r11 r12 r13 σ))
                (cond (!r13)
                  (cond i6
                    (Hop (corralref1_Encode.T 8) (corralref1_Encode.T 8) (corralref1_Encode.j8 K true i0 i1 i2 i3 i4 i5 i6 i7 r0 r1 r2 r3 r4 r5 r6 r7 r8 r9 r10 r11 r12 r13 σ))
                    (Hop (corralref1_Encode.T 8) (corralref1_Encode.T 8) (corralref1_Encode.j8 K i7 i0 i1 i2 i3 i4 i5 i6 i7 r0 r1 r2 r3 r4 r5 r6 r7 r8 r9 r10 r11 r12 r13 σ)))
                  (Hop (corralref1_Encode.T 8) (corralref1_Encode.T 8) (corralref1_Encode.j8 K false i0 i1 i2 i3 i4 i5 i6 i7 r0 r1 r2 r3 r4 r5 r6 r7 r8 r9 r10 r11 r12 r13 σ))))
              (cond (!r13)
                (cond i6
                  (Hop (corralref1_Encode.T 8) (corralref1_Encode.T 8) (corralref1_Encode.j8 K true i0 i1 i2 i3 i4 i5 i6 i7 r0 r1 r2 r3 r4 r5 r6 r7 r8 r9 r10 r11 r12 r13 σ))
                  (Hop (corralref1_Encode.T 8) (corralref1_Encode.T 8) (corralref1_Encode.j8 K i7 i0 i1 i2 i3 i4 i5 i6 i7 r0 r1 r2 r3 r4 r5 r6 r7 r8 r9 r10 r11 r12 r13 σ)))
                (Hop (corralref1_Encode.T 8) (corralref1_Encode.T 8) (corralref1_Encode.j8 K false i0 i1 i2 i3 i4 i5 i6 i7 r0 r1 r2 r3 r4 r5 r6 r7 r8 r9 r10 r11 r12 r13 σ)))))
          (cond (r7 == 0)
            (cond (i5 != 0)
              (Hop (corralref1_Encode.T 8) (corralref1_Encode.T 8) (corralref1_Encode.j8 K true i0 i1 i2 i3 i4 i5 i6 i7 r0 r1 r2 r3 r4 r5 r6 r7 r8 r9 r10 r11 r12 r13 σ))
              (cond (!r13)
                (cond i6
                  (Hop (corralref1_Encode.T 8) (corralref1_Encode.T 8) (corralref1_Encode.j8 K true i0 i1 i2 i3 i4 i5 i6 i7 r0 r1 r2 r3 r4 r5 r6 r7 r8 r9 r10 r11 r12 r13 σ))
                  (Hop (corralref1_Encode.T 8) (corralref1_Encode.T 8) (corralref1_Encode.j8 K i7 i0 i1 i2 i3 i4 i5 i6 i7 r0 r1 r2 r3 r4 r5 r6 r7 r8 r9 r10 r11 r12 r13 σ)))
                (Hop (corralref1_Encode.T 8) (corralref1_Encode.T 8) (corralref1_Encode.j8 K false i0 i1 i2 i3 i4 i5 i6 i7 r0 r1 r2 r3 r4 r5 r6 r7 r8 r9 r10 r11 r12 r13 σ))))
            (cond (!r13)
              (cond i6
                (Hop (corralref1_Encode.T 8) (corralref1_Encode.T 8) (corralref1_Encode.j8 K true i0 i1 i2 i3 i4 i5 i6 i7 r0 r1 r2 r3 r4 r5 r6 r7 r8 r9 r10 r11 r12 r13 σ))
                (Hop (corralref1_Encode.T 8) (corralref1_Encode.T 8) (corralref1_Encode.j8 K i7 i0 i1 i2 i3 i4 i5 i6 i7 r0 r1 r2 r3 r4 r5 r6 r7 r8 r9 r10 r11 r12 r13 σ)))
              (Hop (corralref1_Encode.T 8) (corralref1_Encode.T 8) (corralref1_Encode.j8 K false i0 i1 i2 i3 i4 i5 i6 i7 r0 r1 r2 r3 r4 r5 r6 r7 r8 r9 r10 r11 r12 r13 σ)))))))
    (cond (!r10)
      (cond (i3 != 0)
        (Hop (corralref1_Encode.T 8) (corralref1_Encode.T 8) (corralref1_Encode.j8 K true i0 i1 i2 i3 i4 i5 i6 i7 r0 r1 r2 r3 r4 r5 r6 r7 r8 r9 r10 r11 r12 r13 σ))
        (cond (!r11)
          (cond (i4 != 0)
            (Hop (corralref1_Encode.T 8) (corralref1_Encode.T 8) (corralref1_Encode.j8 K true i0 i1 i2 i3 i4 i5 i6 i7 r0 r1 r2 r3 r4 r5 r6 r7 r8 r9 r10 r11 r12 r13 σ))
            (cond (r7 == 0)
              (cond (i5 != 0)
                (Hop (corralref1_Encode.T 8) (corralref1_Encode.T 8) (corralref1_Encode.j8 K true i0 i1 i2 i3 i4 i5 i6 i7 r0 r1 r2 r3 r4 r5 r6 r7 r8 r9 r10 r11 r12 r13 σ))
                (cond (!r13)
                  (cond i6
                    (Hop (corralref1_Encode.T 8) (corralref1_Encode.T 8) (corralref1_Encode.j8 K true i0 i1 i2 i3 i4 i5 i6 i7 r0 r1 r2 r3 r4 r5 r6 r7 r8 r9 r10 r11 r12 r13 σ))
                    (Hop (corralref1_Encode.T 8) (corralref1_Encode.T 8) (corralref1_Encode.j8 K i7 i0 i1 i2 i3 i4 i5 i6 i7 r0 r1 r2 r3 r4 r5 r6 r7 r8 r9 r10 r11 r12 r13 σ)))
                  (Hop (corralref1_Encode.T 8) (corralref1_Encode.T 8) (corralref1_Encode.j8 K false i0 i1 i2 i3 i4 i5 i6 i7 r0 r1 r2 r3 r4 r5 r6 r7 r8 r9 r10 r11 r12 r13 σ))))
              (cond (!r13)
                (cond i6
                  (Hop (corralref1_Encode.T 8) (corralref1_Encode.T 8) (corralref1_Encode.j8 K true i0 i1 i2 i3 i4 i5 i6 i7 r0 r1 r2 r3 r4 r5 r6 r7 r8 r9 r10 r11 r12 r13 σ))
                  (Hop (corralref1_Encode.T 8) (corralref1_Encode.T 8) (corralref1_Encode.j8 K i7 i0 i1 i2 i3 i4 i5 i6 i7 r0 r1 r2 r3 r4 r5 r6 r7 r8 r9 r10 r11 r12 r13 σ)))
                (Hop (corralref1_Encode.T 8) (corralref1_Encode.T 8) (corralref1_Encode.j8 K false i0 i1 i2 i3 i4 i5 i6 i7 r0 r1 r2 r3 r4 r5 r6 r7 r8 r9 r10 r11 r12 r13 σ)))))
          (cond (r7 == 0)
            (cond (i5 != 0)
              (Hop (corralref1_Encode.T 8) (corralref1_Encode.T 8) (corralref1_Encode.j8 K true i0 i1 i2 i3 i4 i5 i6 i7 r0 r1 r2 r3 r4 r5 r6 r7 r8 r9 r10 r11 r12 r13 σ))
              (cond (!r13)
                (cond i6
                  (Hop (corralref1_Encode.T 8) (corralref1_Encode.T 8) (corralref1_Encode.j8 K true i0 i1 i2 i3 i4 i5 i6 i7 r0 r1 r2 r3 r4 r5 r6 r7 r8 r9 r10 r11 r12 r13 σ))
                  (Hop (corralref1_Encode.T 8) (corralref1_Encode.T 8) (corralref1_Encode.j8 K i7 i0 i1 i2 i3 i4 i5 i6 i7 r0 r1 r2 r3 r4 r5 r6 r7 r8 r9 r10 r11 r12 r13 σ)))
                (Hop (corralref1_Encode.T 8) (corralref1_Encode.T 8) (corralref1_Encode.j8 K false i0 i1 i2 i3 i4 i5 i6 i7 r0 r1 r2 r3 r4 r5 r6 r7 r8 r9 r10 r11 r12 r13 σ))))
            (cond (!r13)
              (cond i6
                (Hop (corralref1_Encode.T 8) (corralref1_Encode.T 8) (corralref1_Encode.j8 K true i0 i1 i2 i3 i4 i5 i6 i7 r0 r1 r2 r3 r4 r5 r6 r7 r8 r9 r10 r11 r12 r13 σ))
                (Hop (corralref1_Encode.T 8) (corralref1_Encode.T 8) (corralref1_Encode.j8 K i7 i0 i1 i2 i3 i4 i5 i6 i7 r0 r1 r2 r3 r4 r5 r6 r7 r8 r9 r10 r11 r12 r13 σ)))
              (Hop (corralref1_Encode.T 8) (corralref1_Encode.T 8) (corralref1_Encode.j8 K false i0 i1 i2 i3 i4 i5 i6 i7 r0 r1 r2 r3 r4 r5 r6 r7 r8 r9 r10 r11 r12 r13 σ))))))
      (cond (!r11)
        (cond (i4 != 0)
          (Hop (corralref1_Encode.T 8) (corralref1_Encode.T 8) (corralref1_Encode.j8 K true i0 i1 i2 i3 i4 i5 i6 i7 r0 r1 r2 r3 r4 r5 r6 r7 r8 r9 r10 r11 r12 r13 σ))
          (cond (r7 == 0)
            (cond (i5 != 0)
              (Hop (corralref1_Encode.T 8) (corralref1_Encode.T 8) (corralref1_Encode.j8 K true i0 i1 i2 i3 i4 i5 i6 i7 r0 r1 r2 r3 r4 r5 r6 r7 r8 r9 r10 r11 r12 r13 σ))
              (cond (!r13)
                (cond i6
                  (Hop (corralref1_Encode.T 8) (corralref1_Encode.T 8) (corralref1_Encode.j8 K true i0 i1 i2 i3 i4 i5 i6 i7 r0 r1 r2 r3 r4 r5 r6 r7 r8 r9 r10 r11 r12 r13 σ))
                  (Hop (corralref1_Encode.T 8) (corralref1_Encode.T 8) (corralref1_Encode.j8 K i7 i0 i1 i2 i3 i4 i5 i6 i7 r0 r1 r2 r3 r4 r5 r6 r7 r8 r9 r10 r11 r12 r13 σ)))
                (Hop (corralref1_Encode.T 8) (corralref1_Encode.T 8) (corralref1_Encode.j8 K false i0 i1 i2 i3 i4 i5 i6 i7 r0 r1 r2 r3 r4 r5 r6 r7 r8 r9 r10 r11 r12 r13 σ))))
            (cond (!r13)
              (cond i6
                (Hop (corralref1_Encode.T 8) (corralref1_Encode.T 8) (corralref1_Encode.j8 K true i0 i1 i2 i3 i4 i5 i6 i7 r0 r1 r2 r3 r4 r5 r6 r7 r8 r9 r10 r11 r12 r13 σ))
                (Hop (corralref1_Encode.T 8) (corralref1_Encode.T 8) (corralref1_Encode.j8 K i7 i0 i1 i2 i3 i4 i5 i6 i7 r0 r1 r2 r3 r4 r5 r6 r7 r8 r9 r10 r11 r12 r13 σ)))
              (Hop (corralref1_Encode.T 8) (corralref1_Encode.T 8) (corralref1_Encode.j8 K false i0 i1 i2 i3 i4 i5 i6 i7 r0 r1 r2 r3 r4 r5 r6 r7 r8 r9 r10 r11 r12 r13 σ)))))
        (cond (r7 == 0)
          (cond (i5 != 0)
            (Hop (corralref1_Encode.T 8) (corralref1_Encode.T 8) (corralref1_Encode.j8 K true i0 i1 i2 i3 i4 i5 i6 i7 r0 r1 r2 r3 r4 r5 r6 r7 r8 r9 r10 r11 r12 r13 σ))
            (cond (!r13)
              (cond i6
                (Hop (corralref1_Encode.T 8) (corralref1_Encode.T 8) (corralref1_Encode.j8 K true i0 i1 i2 i3 i4 i5 i6 i7 r0 r1 r2 r3 r4 r5 r6 r7 r8 r9 r10 r11 r12 r13 σ))
                (Hop (corralref1_Encode.T 8) (corralref1_Encode.T 8) (corralref1_Encode.j8 K i7 i0 i1 i2 i3 i4 i5 i6 i7 r0 r1 r2 r3 r4 r5 r6 r7 r8 r9 r10 r11 r12 r13 σ)))
              (Hop (corralref1_Encode.T 8) (corralref1_Encode.T 8) (corralref1_Encode.j8 K false i0 i1 i2 i3 i4 i5 i6 i7 r0 r1 r2 r3 r4 r5 r6 r7 r8 r9 r10 r11 r12 r13 σ))))
          (cond (!r13)
            (cond i6
              (Hop (corralref1_Encode.T 8) (corralref1_Encode.T 8) (corralref1_Encode.j8 K true i0 i1 i2 i3 i4 i5 i6 i7 r0 r1 r2 r3 r4 r5 r6 r7 r8 r9 r10 r11 r12 r13 σ))
              (Hop (corralref1_Encode.T 8) (corralref1_Encode.T 8) (corralref1_Encode.j8 K i7 i0 i1 i2 i3 i4 i5 i6 i7 r0 r1 r2 r3 r4 r5 r6 r7 r8 r9 r10 r11 r12 r13 σ)))
            (Hop (corralref1_Encode.T 8) (corralref1_Encode.T 8) (corralref1_Encode.j8 K false i0 i1 i2 i3 i4 i5 i6 i7 r0 r1 r2 r3 r4 r5 r6 r7 r8 r9 r10 r11 r12 r13 σ)))))))
def corralref1_Encode.d6 (g : corralref1_Encode.R6) : List AV → List (List Value) → Store → Prop
  | [.v (.bool t58)], [[.int .i64 i0, .int .i64 i1, .int .i64 i2, .int .i64 i3, .int .i64 i4, .int .u32 i5, .bool i6, .bool i7], [.int .i64 r0, .string r1, .int .u32 r2, .int .u32 r3, .int .u32 r4, .bool r5, .bool r6, .int .u8 r7, .bool r8, .bool r9, .bool r10, .bool r11, .int .u32 r12, .bool r13]], σ => g t58 i0 i1 i2 i3 i4 i5 i6 i7 r0 r1 r2 r3 r4 r5 r6 r7 r8 r9 r10 r11 r12 r13 σ
  | _, _, _ => False
def corralref1_Encode.S6 (K : Value → Store → Prop) (t58 : Bool) (i0 i1 i2 i3 i4 i5 : Int) (i6 i7 : Bool) (r0 : Int) (r1 : ByteArray) (r2 r3 r4 : Int) (r5 r6 : Bool) (r7 : Int) (r8 r9 r10 r11 : Bool) (r12 : Int) (r13 : Bool) (σ : Store) : Prop := SndF Pr F.corralref1_Encode corralref1_Encode.H corralref1_Encode.T K 6 [.v (.bool t58)] [[.int .i64 i0, .int .i64 i1, .int .i64 i2, .int .i64 i3, .int .i64 i4, .int .u32 i5, .bool i6, .bool i7], [.int .i64 r0, .string r1, .int .u32 r2, .int .u32 r3, .int .u32 r4, .bool r5, .bool r6, .int .u8 r7, .bool r8, .bool r9, .bool r10, .bool r11, .int .u32 r12, .bool r13]] σ
def corralref1_Encode.j6 (K : Value → Store → Prop) (t58 : Bool) (i0 i1 i2 i3 i4 i5 : Int) (i6 i7 : Bool) (r0 : Int) (r1 : ByteArray) (r2 r3 r4 : Int) (r5 r6 : Bool) (r7 : Int) (r8 r9 r10 r11 : Bool) (r12 : Int) (r13 : Bool) (σ : Store) : Prop :=
  cond t58
  (K (.tuple #[.int .u32 0, .int .i64 106]) σ)
  (Hop (corralref1_Encode.T 7) (corralref1_Encode.T 7) (corralref1_Encode.j7 K i0 i1 i2 i3 i4 i5 i6 i7 r0 r1 r2 r3 r4 r5 r6 r7 r8 r9 r10 r11 r12 r13 σ))
def corralref1_Encode.m (K : Value → Store → Prop) (i0 i1 i2 i3 i4 i5 : Int) (i6 i7 : Bool) (σ : Store) : Prop :=
  Spec Pr F.corralref1_Of [.int .i64 i0] σ fun v σ_ => ∃ t11a0 : Int, ∃ t11a1 : ByteArray, ∃ t11a2 : Int, ∃ t11a3 : Int, ∃ t11a4 : Int, ∃ t11a5 : Bool, ∃ t11a6 : Bool, ∃ t11a7 : Int, ∃ t11a8 : Bool, ∃ t11a9 : Bool, ∃ t11a10 : Bool, ∃ t11a11 : Bool, ∃ t11a12 : Int, ∃ t11a13 : Bool, ∃ t11b : Bool, v = .tuple #[.agg #[.int .i64 t11a0, .string t11a1, .int .u32 t11a2, .int .u32 t11a3, .int .u32 t11a4, .bool t11a5, .bool t11a6, .int .u8 t11a7, .bool t11a8, .bool t11a9, .bool t11a10, .bool t11a11, .int .u32 t11a12, .bool t11a13], .bool t11b] ∧
  cond (!t11b)
  (K (.tuple #[.int .u32 0, .int .i64 102]) σ_)
  (Spec Pr F.corralref1_lay [.int .u8 t11a7, .int .u32 i5] σ_ fun v1 σ_1 => ∃ t21a : Int, ∃ t21b : Bool, v1 = .tuple #[.int .u32 t21a, .bool t21b] ∧
    Spec Pr F.corralref1_reg [.int .i64 i1] σ_1 fun v2 σ_2 => ∃ t26 : Bool, v2 = .bool t26 ∧
    cond (!t26)
    (Hop (corralref1_Encode.T 6) (corralref1_Encode.T 6) (corralref1_Encode.j6 K true i0 i1 i2 i3 i4 i5 i6 i7 t11a0 t11a1 t11a2 t11a3 t11a4 t11a5 t11a6 t11a7 t11a8 t11a9 t11a10 t11a11 t11a12 t11a13 σ_2))
    (Spec Pr F.corralref1_reg [.int .i64 i2] σ_2 fun v3 σ_3 => ∃ t31 : Bool, v3 = .bool t31 ∧
      cond (!t31)
      (Hop (corralref1_Encode.T 6) (corralref1_Encode.T 6) (corralref1_Encode.j6 K true i0 i1 i2 i3 i4 i5 i6 i7 t11a0 t11a1 t11a2 t11a3 t11a4 t11a5 t11a6 t11a7 t11a8 t11a9 t11a10 t11a11 t11a12 t11a13 σ_3))
      (Spec Pr F.corralref1_reg [.int .i64 i3] σ_3 fun v4 σ_4 => ∃ t37 : Bool, v4 = .bool t37 ∧
        cond (!t37)
        (Hop (corralref1_Encode.T 6) (corralref1_Encode.T 6) (corralref1_Encode.j6 K true i0 i1 i2 i3 i4 i5 i6 i7 t11a0 t11a1 t11a2 t11a3 t11a4 t11a5 t11a6 t11a7 t11a8 t11a9 t11a10 t11a11 t11a12 t11a13 σ_4))
        (cond (decide (i4 < 0))
          (Hop (corralref1_Encode.T 6) (corralref1_Encode.T 6) (corralref1_Encode.j6 K true i0 i1 i2 i3 i4 i5 i6 i7 t11a0 t11a1 t11a2 t11a3 t11a4 t11a5 t11a6 t11a7 t11a8 t11a9 t11a10 t11a11 t11a12 t11a13 σ_4))
          (cond (decide (i4 > 4095))
            (Hop (corralref1_Encode.T 6) (corralref1_Encode.T 6) (corralref1_Encode.j6 K true i0 i1 i2 i3 i4 i5 i6 i7 t11a0 t11a1 t11a2 t11a3 t11a4 t11a5 t11a6 t11a7 t11a8 t11a9 t11a10 t11a11 t11a12 t11a13 σ_4))
            (cond (t11a7 != 0)
              (Hop (corralref1_Encode.T 6) (corralref1_Encode.T 6) (corralref1_Encode.j6 K (!t21b) i0 i1 i2 i3 i4 i5 i6 i7 t11a0 t11a1 t11a2 t11a3 t11a4 t11a5 t11a6 t11a7 t11a8 t11a9 t11a10 t11a11 t11a12 t11a13 σ_4))
              (Hop (corralref1_Encode.T 6) (corralref1_Encode.T 6) (corralref1_Encode.j6 K false i0 i1 i2 i3 i4 i5 i6 i7 t11a0 t11a1 t11a2 t11a3 t11a4 t11a5 t11a6 t11a7 t11a8 t11a9 t11a10 t11a11 t11a12 t11a13 σ_4))))))))
theorem corralref1_Encode.d9_ok {K : Value → Store → Prop} {g : corralref1_Encode.R9} (hg : ∀ i0 i1 i2 i3 i4 i5 i6 i7 r0 r1 r2 r3 r4 r5 r6 r7 r8 r9 r10 r11 r12 r13 σ, g i0 i1 i2 i3 i4 i5 i6 i7 r0 r1 r2 r3 r4 r5 r6 r7 r8 r9 r10 r11 r12 r13 σ → corralref1_Encode.S9 K i0 i1 i2 i3 i4 i5 i6 i7 r0 r1 r2 r3 r4 r5 r6 r7 r8 r9 r10 r11 r12 r13 σ) (vs : List AV) (bs : List (List Value)) (σ : Store) (h : corralref1_Encode.d9 g vs bs σ) : SndF Pr F.corralref1_Encode corralref1_Encode.H corralref1_Encode.T K 9 vs bs σ := by
  unfold corralref1_Encode.d9 at h
  split at h
  · exact hg _ _ _ _ _ _ _ _ _ _ _ _ _ _ _ _ _ _ _ _ _ _ _ h
  · exact h.elim
theorem corralref1_Encode.d8_ok {K : Value → Store → Prop} {g : corralref1_Encode.R8} (hg : ∀ t119 i0 i1 i2 i3 i4 i5 i6 i7 r0 r1 r2 r3 r4 r5 r6 r7 r8 r9 r10 r11 r12 r13 σ, g t119 i0 i1 i2 i3 i4 i5 i6 i7 r0 r1 r2 r3 r4 r5 r6 r7 r8 r9 r10 r11 r12 r13 σ → corralref1_Encode.S8 K t119 i0 i1 i2 i3 i4 i5 i6 i7 r0 r1 r2 r3 r4 r5 r6 r7 r8 r9 r10 r11 r12 r13 σ) (vs : List AV) (bs : List (List Value)) (σ : Store) (h : corralref1_Encode.d8 g vs bs σ) : SndF Pr F.corralref1_Encode corralref1_Encode.H corralref1_Encode.T K 8 vs bs σ := by
  unfold corralref1_Encode.d8 at h
  split at h
  · exact hg _ _ _ _ _ _ _ _ _ _ _ _ _ _ _ _ _ _ _ _ _ _ _ _ h
  · exact h.elim
theorem corralref1_Encode.d7_ok {K : Value → Store → Prop} {g : corralref1_Encode.R7} (hg : ∀ i0 i1 i2 i3 i4 i5 i6 i7 r0 r1 r2 r3 r4 r5 r6 r7 r8 r9 r10 r11 r12 r13 σ, g i0 i1 i2 i3 i4 i5 i6 i7 r0 r1 r2 r3 r4 r5 r6 r7 r8 r9 r10 r11 r12 r13 σ → corralref1_Encode.S7 K i0 i1 i2 i3 i4 i5 i6 i7 r0 r1 r2 r3 r4 r5 r6 r7 r8 r9 r10 r11 r12 r13 σ) (vs : List AV) (bs : List (List Value)) (σ : Store) (h : corralref1_Encode.d7 g vs bs σ) : SndF Pr F.corralref1_Encode corralref1_Encode.H corralref1_Encode.T K 7 vs bs σ := by
  unfold corralref1_Encode.d7 at h
  split at h
  · exact hg _ _ _ _ _ _ _ _ _ _ _ _ _ _ _ _ _ _ _ _ _ _ _ h
  · exact h.elim
theorem corralref1_Encode.d6_ok {K : Value → Store → Prop} {g : corralref1_Encode.R6} (hg : ∀ t58 i0 i1 i2 i3 i4 i5 i6 i7 r0 r1 r2 r3 r4 r5 r6 r7 r8 r9 r10 r11 r12 r13 σ, g t58 i0 i1 i2 i3 i4 i5 i6 i7 r0 r1 r2 r3 r4 r5 r6 r7 r8 r9 r10 r11 r12 r13 σ → corralref1_Encode.S6 K t58 i0 i1 i2 i3 i4 i5 i6 i7 r0 r1 r2 r3 r4 r5 r6 r7 r8 r9 r10 r11 r12 r13 σ) (vs : List AV) (bs : List (List Value)) (σ : Store) (h : corralref1_Encode.d6 g vs bs σ) : SndF Pr F.corralref1_Encode corralref1_Encode.H corralref1_Encode.T K 6 vs bs σ := by
  unfold corralref1_Encode.d6 at h
  split at h
  · exact hg _ _ _ _ _ _ _ _ _ _ _ _ _ _ _ _ _ _ _ _ _ _ _ _ h
  · exact h.elim
noncomputable def corralref1_Encode.h9 (K : Value → Store → Prop) : Hand := hsel []
theorem corralref1_Encode.j9_eq (K : Value → Store → Prop) (i0 i1 i2 i3 i4 i5 : Int) (i6 i7 : Bool) (r0 : Int) (r1 : ByteArray) (r2 r3 r4 : Int) (r5 r6 : Bool) (r7 : Int) (r8 r9 r10 r11 : Bool) (r12 : Int) (r13 : Bool) (σ : Store) : (seg Pr corralref1_Encode.H F.corralref1_Encode corralref1_Encode.T (corralref1_Encode.h9 K ) K (corralref1_Encode.T 9) (Ev.cutE corralref1_Encode.H 9 [] [[.int .i64 i0, .int .i64 i1, .int .i64 i2, .int .i64 i3, .int .i64 i4, .int .u32 i5, .bool i6, .bool i7], [.int .i64 r0, .string r1, .int .u32 r2, .int .u32 r3, .int .u32 r4, .bool r5, .bool r6, .int .u8 r7, .bool r8, .bool r9, .bool r10, .bool r11, .int .u32 r12, .bool r13]]) σ) = corralref1_Encode.j9 K i0 i1 i2 i3 i4 i5 i6 i7 r0 r1 r2 r3 r4 r5 r6 r7 r8 r9 r10 r11 r12 r13 σ := by kernel_rfl
theorem corralref1_Encode.j9_ok (K : Value → Store → Prop) (i0 i1 i2 i3 i4 i5 : Int) (i6 i7 : Bool) (r0 : Int) (r1 : ByteArray) (r2 r3 r4 : Int) (r5 r6 : Bool) (r7 : Int) (r8 r9 r10 r11 : Bool) (r12 : Int) (r13 : Bool) (σ : Store) (h : corralref1_Encode.j9 K i0 i1 i2 i3 i4 i5 i6 i7 r0 r1 r2 r3 r4 r5 r6 r7 r8 r9 r10 r11 r12 r13 σ) : corralref1_Encode.S9 K i0 i1 i2 i3 i4 i5 i6 i7 r0 r1 r2 r3 r4 r5 r6 r7 r8 r9 r10 r11 r12 r13 σ := by
  rw [← corralref1_Encode.j9_eq] at h
  exact seg_snd Pr_mixed (hsel_sound fun x hx => by
    cases hx) h
noncomputable def corralref1_Encode.h8 (K : Value → Store → Prop) : Hand := hsel [(9, corralref1_Encode.d9 (corralref1_Encode.j9 K ))]
theorem corralref1_Encode.j8_eq (K : Value → Store → Prop) (t119 : Bool) (i0 i1 i2 i3 i4 i5 : Int) (i6 i7 : Bool) (r0 : Int) (r1 : ByteArray) (r2 r3 r4 : Int) (r5 r6 : Bool) (r7 : Int) (r8 r9 r10 r11 : Bool) (r12 : Int) (r13 : Bool) (σ : Store) : (seg Pr corralref1_Encode.H F.corralref1_Encode corralref1_Encode.T (corralref1_Encode.h8 K ) K (corralref1_Encode.T 8) (Ev.cutE corralref1_Encode.H 8 [.v (.bool t119)] [[.int .i64 i0, .int .i64 i1, .int .i64 i2, .int .i64 i3, .int .i64 i4, .int .u32 i5, .bool i6, .bool i7], [.int .i64 r0, .string r1, .int .u32 r2, .int .u32 r3, .int .u32 r4, .bool r5, .bool r6, .int .u8 r7, .bool r8, .bool r9, .bool r10, .bool r11, .int .u32 r12, .bool r13]]) σ) = corralref1_Encode.j8 K t119 i0 i1 i2 i3 i4 i5 i6 i7 r0 r1 r2 r3 r4 r5 r6 r7 r8 r9 r10 r11 r12 r13 σ := by kernel_rfl
theorem corralref1_Encode.j8_ok (K : Value → Store → Prop) (t119 : Bool) (i0 i1 i2 i3 i4 i5 : Int) (i6 i7 : Bool) (r0 : Int) (r1 : ByteArray) (r2 r3 r4 : Int) (r5 r6 : Bool) (r7 : Int) (r8 r9 r10 r11 : Bool) (r12 : Int) (r13 : Bool) (σ : Store) (h : corralref1_Encode.j8 K t119 i0 i1 i2 i3 i4 i5 i6 i7 r0 r1 r2 r3 r4 r5 r6 r7 r8 r9 r10 r11 r12 r13 σ) : corralref1_Encode.S8 K t119 i0 i1 i2 i3 i4 i5 i6 i7 r0 r1 r2 r3 r4 r5 r6 r7 r8 r9 r10 r11 r12 r13 σ := by
  rw [← corralref1_Encode.j8_eq] at h
  exact seg_snd Pr_mixed (hsel_sound fun x hx => by
    simp only [List.mem_cons, List.not_mem_nil, or_false] at hx
    subst hx
    exact corralref1_Encode.d9_ok fun _ _ _ _ _ _ _ _ _ _ _ _ _ _ _ _ _ _ _ _ _ _ _ h => corralref1_Encode.j9_ok K _ _ _ _ _ _ _ _ _ _ _ _ _ _ _ _ _ _ _ _ _ _ _ h) h
noncomputable def corralref1_Encode.h7 (K : Value → Store → Prop) : Hand := hsel [(8, corralref1_Encode.d8 (corralref1_Encode.j8 K ))]
theorem corralref1_Encode.j7_eq (K : Value → Store → Prop) (i0 i1 i2 i3 i4 i5 : Int) (i6 i7 : Bool) (r0 : Int) (r1 : ByteArray) (r2 r3 r4 : Int) (r5 r6 : Bool) (r7 : Int) (r8 r9 r10 r11 : Bool) (r12 : Int) (r13 : Bool) (σ : Store) : (seg Pr corralref1_Encode.H F.corralref1_Encode corralref1_Encode.T (corralref1_Encode.h7 K ) K (corralref1_Encode.T 7) (Ev.cutE corralref1_Encode.H 7 [] [[.int .i64 i0, .int .i64 i1, .int .i64 i2, .int .i64 i3, .int .i64 i4, .int .u32 i5, .bool i6, .bool i7], [.int .i64 r0, .string r1, .int .u32 r2, .int .u32 r3, .int .u32 r4, .bool r5, .bool r6, .int .u8 r7, .bool r8, .bool r9, .bool r10, .bool r11, .int .u32 r12, .bool r13]]) σ) = corralref1_Encode.j7 K i0 i1 i2 i3 i4 i5 i6 i7 r0 r1 r2 r3 r4 r5 r6 r7 r8 r9 r10 r11 r12 r13 σ := by kernel_rfl
theorem corralref1_Encode.j7_ok (K : Value → Store → Prop) (i0 i1 i2 i3 i4 i5 : Int) (i6 i7 : Bool) (r0 : Int) (r1 : ByteArray) (r2 r3 r4 : Int) (r5 r6 : Bool) (r7 : Int) (r8 r9 r10 r11 : Bool) (r12 : Int) (r13 : Bool) (σ : Store) (h : corralref1_Encode.j7 K i0 i1 i2 i3 i4 i5 i6 i7 r0 r1 r2 r3 r4 r5 r6 r7 r8 r9 r10 r11 r12 r13 σ) : corralref1_Encode.S7 K i0 i1 i2 i3 i4 i5 i6 i7 r0 r1 r2 r3 r4 r5 r6 r7 r8 r9 r10 r11 r12 r13 σ := by
  rw [← corralref1_Encode.j7_eq] at h
  exact seg_snd Pr_mixed (hsel_sound fun x hx => by
    simp only [List.mem_cons, List.not_mem_nil, or_false] at hx
    subst hx
    exact corralref1_Encode.d8_ok fun _ _ _ _ _ _ _ _ _ _ _ _ _ _ _ _ _ _ _ _ _ _ _ _ h => corralref1_Encode.j8_ok K _ _ _ _ _ _ _ _ _ _ _ _ _ _ _ _ _ _ _ _ _ _ _ _ h) h
noncomputable def corralref1_Encode.h6 (K : Value → Store → Prop) : Hand := hsel [(7, corralref1_Encode.d7 (corralref1_Encode.j7 K ))]
theorem corralref1_Encode.j6_eq (K : Value → Store → Prop) (t58 : Bool) (i0 i1 i2 i3 i4 i5 : Int) (i6 i7 : Bool) (r0 : Int) (r1 : ByteArray) (r2 r3 r4 : Int) (r5 r6 : Bool) (r7 : Int) (r8 r9 r10 r11 : Bool) (r12 : Int) (r13 : Bool) (σ : Store) : (seg Pr corralref1_Encode.H F.corralref1_Encode corralref1_Encode.T (corralref1_Encode.h6 K ) K (corralref1_Encode.T 6) (Ev.cutE corralref1_Encode.H 6 [.v (.bool t58)] [[.int .i64 i0, .int .i64 i1, .int .i64 i2, .int .i64 i3, .int .i64 i4, .int .u32 i5, .bool i6, .bool i7], [.int .i64 r0, .string r1, .int .u32 r2, .int .u32 r3, .int .u32 r4, .bool r5, .bool r6, .int .u8 r7, .bool r8, .bool r9, .bool r10, .bool r11, .int .u32 r12, .bool r13]]) σ) = corralref1_Encode.j6 K t58 i0 i1 i2 i3 i4 i5 i6 i7 r0 r1 r2 r3 r4 r5 r6 r7 r8 r9 r10 r11 r12 r13 σ := by kernel_rfl
theorem corralref1_Encode.j6_ok (K : Value → Store → Prop) (t58 : Bool) (i0 i1 i2 i3 i4 i5 : Int) (i6 i7 : Bool) (r0 : Int) (r1 : ByteArray) (r2 r3 r4 : Int) (r5 r6 : Bool) (r7 : Int) (r8 r9 r10 r11 : Bool) (r12 : Int) (r13 : Bool) (σ : Store) (h : corralref1_Encode.j6 K t58 i0 i1 i2 i3 i4 i5 i6 i7 r0 r1 r2 r3 r4 r5 r6 r7 r8 r9 r10 r11 r12 r13 σ) : corralref1_Encode.S6 K t58 i0 i1 i2 i3 i4 i5 i6 i7 r0 r1 r2 r3 r4 r5 r6 r7 r8 r9 r10 r11 r12 r13 σ := by
  rw [← corralref1_Encode.j6_eq] at h
  exact seg_snd Pr_mixed (hsel_sound fun x hx => by
    simp only [List.mem_cons, List.not_mem_nil, or_false] at hx
    subst hx
    exact corralref1_Encode.d7_ok fun _ _ _ _ _ _ _ _ _ _ _ _ _ _ _ _ _ _ _ _ _ _ _ h => corralref1_Encode.j7_ok K _ _ _ _ _ _ _ _ _ _ _ _ _ _ _ _ _ _ _ _ _ _ _ h) h
noncomputable def corralref1_Encode.h (K : Value → Store → Prop) : Hand := hsel [(6, corralref1_Encode.d6 (corralref1_Encode.j6 K ))]
theorem corralref1_Encode.m_eq (K : Value → Store → Prop) (i0 i1 i2 i3 i4 i5 : Int) (i6 i7 : Bool) (σ : Store) : (segF Pr corralref1_Encode.H F.corralref1_Encode corralref1_Encode.T (corralref1_Encode.h K) K [.agg #[.int .i64 i0, .int .i64 i1, .int .i64 i2, .int .i64 i3, .int .i64 i4, .int .u32 i5, .bool i6, .bool i7]] σ) = corralref1_Encode.m K i0 i1 i2 i3 i4 i5 i6 i7 σ := by kernel_rfl
theorem corralref1_Encode.ok {K : Value → Store → Prop} {i0 i1 i2 i3 i4 i5 : Int} {i6 i7 : Bool} {σ : Store} (h : corralref1_Encode.m K i0 i1 i2 i3 i4 i5 i6 i7 σ) : Spec Pr F.corralref1_Encode [.agg #[.int .i64 i0, .int .i64 i1, .int .i64 i2, .int .i64 i3, .int .i64 i4, .int .u32 i5, .bool i6, .bool i7]] σ K := by
  rw [← corralref1_Encode.m_eq] at h
  exact segF_spec Pr_mixed (hsel_sound fun x hx => by
    simp only [List.mem_cons, List.not_mem_nil, or_false] at hx
    subst hx
    exact corralref1_Encode.d6_ok fun _ _ _ _ _ _ _ _ _ _ _ _ _ _ _ _ _ _ _ _ _ _ _ _ h => corralref1_Encode.j6_ok K _ _ _ _ _ _ _ _ _ _ _ _ _ _ _ _ _ _ _ _ _ _ _ _ h) h

/-! ### corral/corralsee.sentinels -/
def corralsee_sentinels.H : Hints := { opq := [12], esc := [12], cuts := [] }
noncomputable def corralsee_sentinels.T : Nat → List Item := stk Pr F.corralsee_sentinels []
def corralsee_sentinels.m (K : Value → Store → Prop) (σ : Store) : Prop :=
  ∃ t1 : Value, cellAt σ 4 0 = some (t1) ∧
  ∃ t2 : Value, cellAt σ 0 0 = some (t2) ∧
  ∃ t3 : Value, cellAt σ 5 0 = some (t3) ∧
  ∃ t4 : Value, cellAt σ 2 0 = some (t4) ∧
  ∃ t5 : Value, cellAt σ 6 0 = some (t5) ∧
  ∃ t6 : Value, cellAt σ 1 0 = some (t6) ∧
  ∃ t7 : Value, cellAt σ 3 0 = some (t7) ∧
  ∃ t8 : Value, cellAt σ 7 0 = some (t8) ∧
  ∃ t9 : Value, cellAt σ 8 0 = some (t9) ∧
  ∃ t10 : Value, cellAt σ 9 0 = some (t10) ∧
  ∃ t11 : Value, cellAt σ 10 0 = some (t11) ∧
  Req (one (t1) && (one (t2) && (one (t3) && (one (t4) && (one (t5) && (one (t6) && (one (t7) && (one (t8) && (one (t9) && (one (t10) && (one (t11) && true))))))))))) (
    New σ ⟨29, [t1, t2, t3, t4, t5, t6, t7, t8, t9, t10, t11], (0, 0)⟩ fun t12B σ_ =>
    K (.slice (some ⟨t12B, 0, none⟩) 11 11) σ_)
noncomputable def corralsee_sentinels.h (K : Value → Store → Prop) : Hand := hsel []
theorem corralsee_sentinels.m_eq (K : Value → Store → Prop) (σ : Store) : (segF Pr corralsee_sentinels.H F.corralsee_sentinels corralsee_sentinels.T (corralsee_sentinels.h K) K [] σ) = corralsee_sentinels.m K σ := by kernel_rfl
theorem corralsee_sentinels.ok {K : Value → Store → Prop} {σ : Store} (h : corralsee_sentinels.m K σ) : Spec Pr F.corralsee_sentinels [] σ K := by
  rw [← corralsee_sentinels.m_eq] at h
  exact segF_spec Pr_mixed (hsel_sound fun x hx => by
    cases hx) h

/-! ### corral/corralsee.sentinel -/
def corralsee_sentinel.H : Hints := { esc := [], cuts := [(3, [0, 3, 4], []), (7, [], [])] }
noncomputable def corralsee_sentinel.T : Nat → List Item := stk Pr F.corralsee_sentinel [(3, [1, 1, 0, 1, 0, 0]), (7, [1, 1, 1])]
abbrev corralsee_sentinel.R7 : Type := Store → Prop
abbrev corralsee_sentinel.R3 : Type := Nat → Nat → Option Addr → Nat → Nat → Int → Store → Prop
def corralsee_sentinel.d7 (g : corralsee_sentinel.R7) : List AV → List (List Value) → Store → Prop
  | [], [], σ => g σ
  | _, _, _ => False
def corralsee_sentinel.S7 (K : Value → Store → Prop) (σ : Store) : Prop := SndF Pr F.corralsee_sentinel corralsee_sentinel.H corralsee_sentinel.T K 7 [] [] σ
def corralsee_sentinel.j7 (K : Value → Store → Prop) (σ : Store) : Prop :=
  K (.int .i64 (-1)) σ
def corralsee_sentinel.d3 (g : corralsee_sentinel.R3) : List AV → List (List Value) → Store → Prop
  | [.v (.iface 179 (.pointer (some ⟨eB, eO, none⟩))), .v (.slice lA lN lC), .v (.int .i64 i)], [], σ => g eB eO lA lN lC i σ
  | _, _, _ => False
def corralsee_sentinel.S3 (K : Value → Store → Prop) (eB eO : Nat) (lA : Option Addr) (lN lC : Nat) (i : Int) (σ : Store) : Prop := SndF Pr F.corralsee_sentinel corralsee_sentinel.H corralsee_sentinel.T K 3 [.v (.iface 179 (.pointer (some ⟨eB, eO, none⟩))), .v (.slice lA lN lC), .v (.int .i64 i)] [] σ
def corralsee_sentinel.b3 (K : Value → Store → Prop) (rr3 : corralsee_sentinel.R3) (eB eO : Nat) (lA : Option Addr) (lN lC : Nat) (i : Int) (σ : Store) : Prop :=
  cond (decide (i < ((lN : Nat) : Int)))
  (Req (decide (0 ≤ i) && decide (i < ((lN : Nat) : Int))) (
      PtrNN lA fun t15B t15O =>
      ∃ t16 : Value, cellAt σ t15B (t15O + i.toNat * 1) = some (t16) ∧
      Spec Pr F.corralsee_Alike [.iface 179 (.pointer (some ⟨eB, eO, none⟩)), t16] σ fun v σ_ => ∃ t17 : Bool, v = .bool t17 ∧
      cond t17
      (K (.int .i64 (IntKind.wrap .i64 (101 + i))) σ_)
      (Hop (corralsee_sentinel.T 3) (corralsee_sentinel.T 3) (rr3 eB eO lA lN lC (IntKind.wrap .i64 (i + 1)) σ_))))
  (Hop (corralsee_sentinel.T 7) (corralsee_sentinel.T 7) (corralsee_sentinel.j7 K σ))
def corralsee_sentinel.l3 (K : Value → Store → Prop) : Nat → corralsee_sentinel.R3
  | 0, _, _, _, _, _, _, _ => False
  | n + 1, eB, eO, lA, lN, lC, i, σ => corralsee_sentinel.b3 K (corralsee_sentinel.l3 K n) eB eO lA lN lC i σ
def corralsee_sentinel.m (K : Value → Store → Prop) (eB eO : Nat) (σ : Store) : Prop :=
  Spec Pr F.corralsee_sentinels [] σ fun v σ_ => ∃ t5A : Option Addr, ∃ t5N : Nat, ∃ t5C : Nat, v = .slice t5A t5N t5C ∧
  Hop (corralsee_sentinel.T 3) (corralsee_sentinel.T 3) (∃ n : Nat, corralsee_sentinel.l3 K n eB eO t5A t5N t5C 0 σ_)
theorem corralsee_sentinel.d7_ok {K : Value → Store → Prop} {g : corralsee_sentinel.R7} (hg : ∀ σ, g σ → corralsee_sentinel.S7 K σ) (vs : List AV) (bs : List (List Value)) (σ : Store) (h : corralsee_sentinel.d7 g vs bs σ) : SndF Pr F.corralsee_sentinel corralsee_sentinel.H corralsee_sentinel.T K 7 vs bs σ := by
  unfold corralsee_sentinel.d7 at h
  split at h
  · exact hg _ h
  · exact h.elim
theorem corralsee_sentinel.d3_ok {K : Value → Store → Prop} {g : corralsee_sentinel.R3} (hg : ∀ eB eO lA lN lC i σ, g eB eO lA lN lC i σ → corralsee_sentinel.S3 K eB eO lA lN lC i σ) (vs : List AV) (bs : List (List Value)) (σ : Store) (h : corralsee_sentinel.d3 g vs bs σ) : SndF Pr F.corralsee_sentinel corralsee_sentinel.H corralsee_sentinel.T K 3 vs bs σ := by
  unfold corralsee_sentinel.d3 at h
  split at h
  · exact hg _ _ _ _ _ _ _ h
  · exact h.elim
noncomputable def corralsee_sentinel.h7 (K : Value → Store → Prop) : Hand := hsel []
theorem corralsee_sentinel.j7_eq (K : Value → Store → Prop) (σ : Store) : (seg Pr corralsee_sentinel.H F.corralsee_sentinel corralsee_sentinel.T (corralsee_sentinel.h7 K ) K (corralsee_sentinel.T 7) (Ev.cutE corralsee_sentinel.H 7 [] []) σ) = corralsee_sentinel.j7 K σ := by kernel_rfl
theorem corralsee_sentinel.j7_ok (K : Value → Store → Prop) (σ : Store) (h : corralsee_sentinel.j7 K σ) : corralsee_sentinel.S7 K σ := by
  rw [← corralsee_sentinel.j7_eq] at h
  exact seg_snd Pr_mixed (hsel_sound fun x hx => by
    cases hx) h
noncomputable def corralsee_sentinel.h3 (K : Value → Store → Prop) (rr3 : corralsee_sentinel.R3) : Hand := hsel [(7, corralsee_sentinel.d7 (corralsee_sentinel.j7 K )), (3, corralsee_sentinel.d3 rr3)]
theorem corralsee_sentinel.b3_eq (K : Value → Store → Prop) (rr3 : corralsee_sentinel.R3) (eB eO : Nat) (lA : Option Addr) (lN lC : Nat) (i : Int) (σ : Store) : (seg Pr corralsee_sentinel.H F.corralsee_sentinel corralsee_sentinel.T (corralsee_sentinel.h3 K rr3) K (corralsee_sentinel.T 3) (Ev.cutE corralsee_sentinel.H 3 [.v (.iface 179 (.pointer (some ⟨eB, eO, none⟩))), .v (.slice lA lN lC), .v (.int .i64 i)] []) σ) = corralsee_sentinel.b3 K rr3 eB eO lA lN lC i σ := by kernel_rfl
theorem corralsee_sentinel.b3_ok (K : Value → Store → Prop) (rr3 : corralsee_sentinel.R3) (hh3 : ∀ eB eO lA lN lC i σ, rr3 eB eO lA lN lC i σ → corralsee_sentinel.S3 K eB eO lA lN lC i σ) (eB eO : Nat) (lA : Option Addr) (lN lC : Nat) (i : Int) (σ : Store) (h : corralsee_sentinel.b3 K rr3 eB eO lA lN lC i σ) : corralsee_sentinel.S3 K eB eO lA lN lC i σ := by
  rw [← corralsee_sentinel.b3_eq] at h
  exact seg_snd Pr_mixed (hsel_sound fun x hx => by
    simp only [List.mem_cons, List.not_mem_nil, or_false] at hx
    rcases hx with rfl | rfl
    · exact corralsee_sentinel.d7_ok fun _ h => corralsee_sentinel.j7_ok K _ h
    · exact corralsee_sentinel.d3_ok hh3) h
theorem corralsee_sentinel.l3_ok (K : Value → Store → Prop) : ∀ (n : Nat) (eB eO : Nat) (lA : Option Addr) (lN lC : Nat) (i : Int) (σ : Store), corralsee_sentinel.l3 K n eB eO lA lN lC i σ → corralsee_sentinel.S3 K eB eO lA lN lC i σ
  | 0, _, _, _, _, _, _, _, h => h.elim
  | n + 1, _, _, _, _, _, _, _, h => corralsee_sentinel.b3_ok K (corralsee_sentinel.l3 K n) (corralsee_sentinel.l3_ok K n) _ _ _ _ _ _ _ h
noncomputable def corralsee_sentinel.h (K : Value → Store → Prop) : Hand := hsel [(3, corralsee_sentinel.d3 fun eB eO lA lN lC i σ => ∃ n : Nat, corralsee_sentinel.l3 K n eB eO lA lN lC i σ)]
theorem corralsee_sentinel.m_eq (K : Value → Store → Prop) (eB eO : Nat) (σ : Store) : (segF Pr corralsee_sentinel.H F.corralsee_sentinel corralsee_sentinel.T (corralsee_sentinel.h K) K [.iface 179 (.pointer (some ⟨eB, eO, none⟩))] σ) = corralsee_sentinel.m K eB eO σ := by kernel_rfl
theorem corralsee_sentinel.ok {K : Value → Store → Prop} {eB eO : Nat} {σ : Store} (h : corralsee_sentinel.m K eB eO σ) : Spec Pr F.corralsee_sentinel [.iface 179 (.pointer (some ⟨eB, eO, none⟩))] σ K := by
  rw [← corralsee_sentinel.m_eq] at h
  exact segF_spec Pr_mixed (hsel_sound fun x hx => by
    simp only [List.mem_cons, List.not_mem_nil, or_false] at hx
    subst hx
    exact corralsee_sentinel.d3_ok fun _ _ _ _ _ _ _ ⟨n, h⟩ => corralsee_sentinel.l3_ok K n _ _ _ _ _ _ _ h) h

end Go.Ev
