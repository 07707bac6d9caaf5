import Derived.Test.YtohkplmfihhhnaaN
set_option linter.unusedVariables false
namespace Go.Ev
open Go
/-! ### corral/corralref.Among -/
def corralref_Among.H : Hints := { esc := [], cuts := [(2, [0, 1, 5], []), (6, [], [])] }
noncomputable def corralref_Among.T : Nat → List Item := stk Pr F.corralref_Among [(2, [1, 0, 1, 0, 0]), (6, [1, 1])]
abbrev corralref_Among.R6 : Type := Store → Prop
abbrev corralref_Among.R2 : Type := Option Addr → Nat → Nat → Int → Int → Store → Prop
def corralref_Among.d6 (g : corralref_Among.R6) : List AV → List (List Value) → Store → Prop
  | [], [], σ => g σ
  | _, _, _ => False
def corralref_Among.S6 (K : Value → Store → Prop) (σ : Store) : Prop := SndF Pr F.corralref_Among corralref_Among.H corralref_Among.T K 6 [] [] σ
def corralref_Among.j6 (K : Value → Store → Prop) (σ : Store) : Prop :=
  K (.bool false) σ
def corralref_Among.d2 (g : corralref_Among.R2) : List AV → List (List Value) → Store → Prop
  | [.v (.slice lA lN lC), .v (.int .i64 n_), .v (.int .i64 i)], [], σ => g lA lN lC n_ i σ
  | _, _, _ => False
def corralref_Among.S2 (K : Value → Store → Prop) (lA : Option Addr) (lN lC : Nat) (n_ i : Int) (σ : Store) : Prop := SndF Pr F.corralref_Among corralref_Among.H corralref_Among.T K 2 [.v (.slice lA lN lC), .v (.int .i64 n_), .v (.int .i64 i)] [] σ
def corralref_Among.b2 (K : Value → Store → Prop) (r2 : corralref_Among.R2) (lA : Option Addr) (lN lC : Nat) (n_ i : Int) (σ : Store) : Prop :=
  cond (decide (i < ((lN : Nat) : Int)))
  (Req (decide (0 ≤ i) && decide (i < ((lN : Nat) : Int))) (
      PtrNN lA fun t14B t14O =>
      ∃ t15 : Int, cellAt σ t14B (t14O + i.toNat * 1) = some (.int .i64 t15) ∧
      cond (t15 == n_)
      (K (.bool true) σ)
      (Hop (corralref_Among.T 2) (corralref_Among.T 2) (r2 lA lN lC n_ (IntKind.wrap .i64 (i + 1)) σ))))
  (Hop (corralref_Among.T 6) (corralref_Among.T 6) (corralref_Among.j6 K σ))
def corralref_Among.l2 (K : Value → Store → Prop) : Nat → corralref_Among.R2
  | 0, _, _, _, _, _, _ => False
  | n + 1, lA, lN, lC, n_, i, σ => corralref_Among.b2 K (corralref_Among.l2 K n) lA lN lC n_ i σ
def corralref_Among.m (K : Value → Store → Prop) (lA : Option Addr) (lN lC : Nat) (n_ : Int) (σ : Store) : Prop :=
  Hop (corralref_Among.T 2) (corralref_Among.T 2) (∃ n : Nat, corralref_Among.l2 K n lA lN lC n_ 0 σ)
theorem corralref_Among.d6_ok {K : Value → Store → Prop} {g : corralref_Among.R6} (hg : ∀ σ, g σ → corralref_Among.S6 K σ) (vs : List AV) (bs : List (List Value)) (σ : Store) (h : corralref_Among.d6 g vs bs σ) : SndF Pr F.corralref_Among corralref_Among.H corralref_Among.T K 6 vs bs σ := by
  unfold corralref_Among.d6 at h
  split at h
  · exact hg _ h
  · exact h.elim
theorem corralref_Among.d2_ok {K : Value → Store → Prop} {g : corralref_Among.R2} (hg : ∀ lA lN lC n_ i σ, g lA lN lC n_ i σ → corralref_Among.S2 K lA lN lC n_ i σ) (vs : List AV) (bs : List (List Value)) (σ : Store) (h : corralref_Among.d2 g vs bs σ) : SndF Pr F.corralref_Among corralref_Among.H corralref_Among.T K 2 vs bs σ := by
  unfold corralref_Among.d2 at h
  split at h
  · exact hg _ _ _ _ _ _ h
  · exact h.elim
noncomputable def corralref_Among.h6 (K : Value → Store → Prop) : Hand := hsel []
theorem corralref_Among.j6_eq (K : Value → Store → Prop) (σ : Store) : (seg Pr corralref_Among.H F.corralref_Among corralref_Among.T (corralref_Among.h6 K ) K (corralref_Among.T 6) (Ev.cutE corralref_Among.H 6 [] []) σ) = corralref_Among.j6 K σ := by kernel_rfl
theorem corralref_Among.j6_ok (K : Value → Store → Prop) (σ : Store) (h : corralref_Among.j6 K σ) : corralref_Among.S6 K σ := by
  rw [← corralref_Among.j6_eq] at h
  exact seg_snd Pr_mixed (hsel_sound fun x hx => by
    cases hx) h
noncomputable def corralref_Among.h2 (K : Value → Store → Prop) (r2 : corralref_Among.R2) : Hand := hsel [(6, corralref_Among.d6 (corralref_Among.j6 K )), (2, corralref_Among.d2 r2)]
theorem corralref_Among.b2_eq (K : Value → Store → Prop) (r2 : corralref_Among.R2) (lA : Option Addr) (lN lC : Nat) (n_ i : Int) (σ : Store) : (seg Pr corralref_Among.H F.corralref_Among corralref_Among.T (corralref_Among.h2 K r2) K (corralref_Among.T 2) (Ev.cutE corralref_Among.H 2 [.v (.slice lA lN lC), .v (.int .i64 n_), .v (.int .i64 i)] []) σ) = corralref_Among.b2 K r2 lA lN lC n_ i σ := by kernel_rfl
theorem corralref_Among.b2_ok (K : Value → Store → Prop) (r2 : corralref_Among.R2) (h2 : ∀ lA lN lC n_ i σ, r2 lA lN lC n_ i σ → corralref_Among.S2 K lA lN lC n_ i σ) (lA : Option Addr) (lN lC : Nat) (n_ i : Int) (σ : Store) (h : corralref_Among.b2 K r2 lA lN lC n_ i σ) : corralref_Among.S2 K lA lN lC n_ i σ := by
  rw [← corralref_Among.b2_eq] at h
  exact seg_snd Pr_mixed (hsel_sound fun x hx => by
    simp only [List.mem_cons, List.not_mem_nil, or_false] at hx
    rcases hx with rfl | rfl
    · exact corralref_Among.d6_ok fun _ h => corralref_Among.j6_ok K _ h
    · exact corralref_Among.d2_ok h2) h
theorem corralref_Among.l2_ok (K : Value → Store → Prop) : ∀ (n : Nat) (lA : Option Addr) (lN lC : Nat) (n_ i : Int) (σ : Store), corralref_Among.l2 K n lA lN lC n_ i σ → corralref_Among.S2 K lA lN lC n_ i σ
  | 0, _, _, _, _, _, _, h => h.elim
  | n + 1, _, _, _, _, _, _, h => corralref_Among.b2_ok K (corralref_Among.l2 K n) (corralref_Among.l2_ok K n) _ _ _ _ _ _ h
noncomputable def corralref_Among.h (K : Value → Store → Prop) : Hand := hsel [(2, corralref_Among.d2 fun lA lN lC n_ i σ => ∃ n : Nat, corralref_Among.l2 K n lA lN lC n_ i σ)]
theorem corralref_Among.m_eq (K : Value → Store → Prop) (lA : Option Addr) (lN lC : Nat) (n_ : Int) (σ : Store) : (segF Pr corralref_Among.H F.corralref_Among corralref_Among.T (corralref_Among.h K) K [.slice lA lN lC, .int .i64 n_] σ) = corralref_Among.m K lA lN lC n_ σ := by kernel_rfl
theorem corralref_Among.ok {K : Value → Store → Prop} {lA : Option Addr} {lN lC : Nat} {n_ : Int} {σ : Store} (h : corralref_Among.m K lA lN lC n_ σ) : Spec Pr F.corralref_Among [.slice lA lN lC, .int .i64 n_] σ K := by
  rw [← corralref_Among.m_eq] at h
  exact segF_spec Pr_mixed (hsel_sound fun x hx => by
    simp only [List.mem_cons, List.not_mem_nil, or_false] at hx
    subst hx
    exact corralref_Among.d2_ok fun _ _ _ _ _ _ ⟨n, h⟩ => corralref_Among.l2_ok K n _ _ _ _ _ _ h) h

/-! ### (*corral/corralref18.Home).msg -/
def corralref18_Home_msg.H : Hints := { esc := [], cuts := [] }
noncomputable def corralref18_Home_msg.T : Nat → List Item := stk Pr F.corralref18_Home_msg []
def corralref18_Home_msg.m (K : Value → Store → Prop) (hB hO : Nat) (kind to : Int) (σ : Store) : Prop :=
  ∃ t11 : Int, cellAt σ hB hO = some (.int .i64 t11) ∧
  K (.agg #[.int .i64 kind, .int .i64 t11, .int .i64 (-1), .int .i64 to, .int .u32 0, .int .u32 0, .int .u32 0, .int .u32 0, .bool false, .bool false, .bool false]) σ
noncomputable def corralref18_Home_msg.h (K : Value → Store → Prop) : Hand := hsel []
theorem corralref18_Home_msg.m_eq (K : Value → Store → Prop) (hB hO : Nat) (kind to : Int) (σ : Store) : (segF Pr corralref18_Home_msg.H F.corralref18_Home_msg corralref18_Home_msg.T (corralref18_Home_msg.h K) K [.pointer (some ⟨hB, hO, none⟩), .int .i64 kind, .int .i64 to] σ) = corralref18_Home_msg.m K hB hO kind to σ := by kernel_rfl
theorem corralref18_Home_msg.ok {K : Value → Store → Prop} {hB hO : Nat} {kind to : Int} {σ : Store} (h : corralref18_Home_msg.m K hB hO kind to σ) : Spec Pr F.corralref18_Home_msg [.pointer (some ⟨hB, hO, none⟩), .int .i64 kind, .int .i64 to] σ K := by
  rw [← corralref18_Home_msg.m_eq] at h
  exact segF_spec Pr_mixed (hsel_sound fun x hx => by
    cases hx) h

/-! ### corral/corralref18.without -/
def corralref18_without.H : Hints := { esc := [], cuts := [(3, [0, 1, 5, 6], []), (7, [5], [])] }
noncomputable def corralref18_without.T : Nat → List Item := stk Pr F.corralref18_without [(3, [1, 1, 0, 1, 0, 0]), (7, [1, 1, 1])]
abbrev corralref18_without.R7 : Type := Option Addr → Nat → Nat → Store → Prop
abbrev corralref18_without.R3 : Type := Option Addr → Nat → Nat → Int → Option Addr → Nat → Nat → Int → Store → Prop
def corralref18_without.d7 (g : corralref18_without.R7) : List AV → List (List Value) → Store → Prop
  | [.v (.slice outA outN outC)], [], σ => g outA outN outC σ
  | _, _, _ => False
def corralref18_without.S7 (K : Value → Store → Prop) (outA : Option Addr) (outN outC : Nat) (σ : Store) : Prop := SndF Pr F.corralref18_without corralref18_without.H corralref18_without.T K 7 [.v (.slice outA outN outC)] [] σ
def corralref18_without.j7 (K : Value → Store → Prop) (outA : Option Addr) (outN outC : Nat) (σ : Store) : Prop :=
  K (.slice outA outN outC) σ
def corralref18_without.d3 (g : corralref18_without.R3) : List AV → List (List Value) → Store → Prop
  | [.v (.slice lA lN lC), .v (.int .i64 n_), .v (.slice outA outN outC), .v (.int .i64 i)], [], σ => g lA lN lC n_ outA outN outC i σ
  | _, _, _ => False
def corralref18_without.S3 (K : Value → Store → Prop) (lA : Option Addr) (lN lC : Nat) (n_ : Int) (outA : Option Addr) (outN outC : Nat) (i : Int) (σ : Store) : Prop := SndF Pr F.corralref18_without corralref18_without.H corralref18_without.T K 3 [.v (.slice lA lN lC), .v (.int .i64 n_), .v (.slice outA outN outC), .v (.int .i64 i)] [] σ
def corralref18_without.b3 (K : Value → Store → Prop) (r3 : corralref18_without.R3) (lA : Option Addr) (lN lC : Nat) (n_ : Int) (outA : Option Addr) (outN outC : Nat) (i : Int) (σ : Store) : Prop :=
  cond (decide (i < ((lN : Nat) : Int)))
  (Req (decide (0 ≤ i) && decide (i < ((lN : Nat) : Int))) (
      PtrNN lA fun t15B t15O =>
      ∃ t16 : Int, cellAt σ t15B (t15O + i.toNat * 1) = some (.int .i64 t16) ∧
      cond (t16 != n_)
      (Req (decide (0 ≤ i) && decide (i < ((lN : Nat) : Int))) (
          PtrNN lA fun t22B t22O =>
          ∃ t23 : Int, cellAt σ t22B (t22O + i.toNat * 1) = some (.int .i64 t23) ∧
          AppK 3 1 8 [.int .i64 0] σ outA outN outC [.int .i64 t23] 1 fun t25A t25N t25C σ_ =>
          Hop (corralref18_without.T 3) (corralref18_without.T 3) (r3 lA lN lC n_ t25A t25N t25C (IntKind.wrap .i64 (i + 1)) σ_)))
      (Hop (corralref18_without.T 3) (corralref18_without.T 3) (r3 lA lN lC n_ outA outN outC (IntKind.wrap .i64 (i + 1)) σ))))
  (Hop (corralref18_without.T 7) (corralref18_without.T 7) (corralref18_without.j7 K outA outN outC σ))
def corralref18_without.l3 (K : Value → Store → Prop) : Nat → corralref18_without.R3
  | 0, _, _, _, _, _, _, _, _, _ => False
  | n + 1, lA, lN, lC, n_, outA, outN, outC, i, σ => corralref18_without.b3 K (corralref18_without.l3 K n) lA lN lC n_ outA outN outC i σ
def corralref18_without.m (K : Value → Store → Prop) (lA : Option Addr) (lN lC : Nat) (n_ : Int) (σ : Store) : Prop :=
  Hop (corralref18_without.T 3) (corralref18_without.T 3) (∃ n : Nat, corralref18_without.l3 K n lA lN lC n_ none 0 0 0 σ)
theorem corralref18_without.d7_ok {K : Value → Store → Prop} {g : corralref18_without.R7} (hg : ∀ outA outN outC σ, g outA outN outC σ → corralref18_without.S7 K outA outN outC σ) (vs : List AV) (bs : List (List Value)) (σ : Store) (h : corralref18_without.d7 g vs bs σ) : SndF Pr F.corralref18_without corralref18_without.H corralref18_without.T K 7 vs bs σ := by
  unfold corralref18_without.d7 at h
  split at h
  · exact hg _ _ _ _ h
  · exact h.elim
theorem corralref18_without.d3_ok {K : Value → Store → Prop} {g : corralref18_without.R3} (hg : ∀ lA lN lC n_ outA outN outC i σ, g lA lN lC n_ outA outN outC i σ → corralref18_without.S3 K lA lN lC n_ outA outN outC i σ) (vs : List AV) (bs : List (List Value)) (σ : Store) (h : corralref18_without.d3 g vs bs σ) : SndF Pr F.corralref18_without corralref18_without.H corralref18_without.T K 3 vs bs σ := by
  unfold corralref18_without.d3 at h
  split at h
  · exact hg _ _ _ _ _ _ _ _ _ h
  · exact h.elim
noncomputable def corralref18_without.h7 (K : Value → Store → Prop) : Hand := hsel []
theorem corralref18_without.j7_eq (K : Value → Store → Prop) (outA : Option Addr) (outN outC : Nat) (σ : Store) : (seg Pr corralref18_without.H F.corralref18_without corralref18_without.T (corralref18_without.h7 K ) K (corralref18_without.T 7) (Ev.cutE corralref18_without.H 7 [.v (.slice outA outN outC)] []) σ) = corralref18_without.j7 K outA outN outC σ := by kernel_rfl
theorem corralref18_without.j7_ok (K : Value → Store → Prop) (outA : Option Addr) (outN outC : Nat) (σ : Store) (h : corralref18_without.j7 K outA outN outC σ) : corralref18_without.S7 K outA outN outC σ := by
  rw [← corralref18_without.j7_eq] at h
  exact seg_snd Pr_mixed (hsel_sound fun x hx => by
    cases hx) h
noncomputable def corralref18_without.h3 (K : Value → Store → Prop) (r3 : corralref18_without.R3) : Hand := hsel [(7, corralref18_without.d7 (corralref18_without.j7 K )), (3, corralref18_without.d3 r3)]
theorem corralref18_without.b3_eq (K : Value → Store → Prop) (r3 : corralref18_without.R3) (lA : Option Addr) (lN lC : Nat) (n_ : Int) (outA : Option Addr) (outN outC : Nat) (i : Int) (σ : Store) : (seg Pr corralref18_without.H F.corralref18_without corralref18_without.T (corralref18_without.h3 K r3) K (corralref18_without.T 3) (Ev.cutE corralref18_without.H 3 [.v (.slice lA lN lC), .v (.int .i64 n_), .v (.slice outA outN outC), .v (.int .i64 i)] []) σ) = corralref18_without.b3 K r3 lA lN lC n_ outA outN outC i σ := by kernel_rfl
theorem corralref18_without.b3_ok (K : Value → Store → Prop) (r3 : corralref18_without.R3) (h3 : ∀ lA lN lC n_ outA outN outC i σ, r3 lA lN lC n_ outA outN outC i σ → corralref18_without.S3 K lA lN lC n_ outA outN outC i σ) (lA : Option Addr) (lN lC : Nat) (n_ : Int) (outA : Option Addr) (outN outC : Nat) (i : Int) (σ : Store) (h : corralref18_without.b3 K r3 lA lN lC n_ outA outN outC i σ) : corralref18_without.S3 K lA lN lC n_ outA outN outC i σ := by
  rw [← corralref18_without.b3_eq] at h
  exact seg_snd Pr_mixed (hsel_sound fun x hx => by
    simp only [List.mem_cons, List.not_mem_nil, or_false] at hx
    rcases hx with rfl | rfl
    · exact corralref18_without.d7_ok fun _ _ _ _ h => corralref18_without.j7_ok K _ _ _ _ h
    · exact corralref18_without.d3_ok h3) h
theorem corralref18_without.l3_ok (K : Value → Store → Prop) : ∀ (n : Nat) (lA : Option Addr) (lN lC : Nat) (n_ : Int) (outA : Option Addr) (outN outC : Nat) (i : Int) (σ : Store), corralref18_without.l3 K n lA lN lC n_ outA outN outC i σ → corralref18_without.S3 K lA lN lC n_ outA outN outC i σ
  | 0, _, _, _, _, _, _, _, _, _, h => h.elim
  | n + 1, _, _, _, _, _, _, _, _, _, h => corralref18_without.b3_ok K (corralref18_without.l3 K n) (corralref18_without.l3_ok K n) _ _ _ _ _ _ _ _ _ h
noncomputable def corralref18_without.h (K : Value → Store → Prop) : Hand := hsel [(3, corralref18_without.d3 fun lA lN lC n_ outA outN outC i σ => ∃ n : Nat, corralref18_without.l3 K n lA lN lC n_ outA outN outC i σ)]
theorem corralref18_without.m_eq (K : Value → Store → Prop) (lA : Option Addr) (lN lC : Nat) (n_ : Int) (σ : Store) : (segF Pr corralref18_without.H F.corralref18_without corralref18_without.T (corralref18_without.h K) K [.slice lA lN lC, .int .i64 n_] σ) = corralref18_without.m K lA lN lC n_ σ := by kernel_rfl
theorem corralref18_without.ok {K : Value → Store → Prop} {lA : Option Addr} {lN lC : Nat} {n_ : Int} {σ : Store} (h : corralref18_without.m K lA lN lC n_ σ) : Spec Pr F.corralref18_without [.slice lA lN lC, .int .i64 n_] σ K := by
  rw [← corralref18_without.m_eq] at h
  exact segF_spec Pr_mixed (hsel_sound fun x hx => by
    simp only [List.mem_cons, List.not_mem_nil, or_false] at hx
    subst hx
    exact corralref18_without.d3_ok fun _ _ _ _ _ _ _ _ _ ⟨n, h⟩ => corralref18_without.l3_ok K n _ _ _ _ _ _ _ _ _ h) h

/-! ### (*corral/corralref18.Home).data -/
def corralref18_Home_data.H : Hints := { esc := [24], cuts := [] }
noncomputable def corralref18_Home_data.T : Nat → List Item := stk Pr F.corralref18_Home_data []
def corralref18_Home_data.m (K : Value → Store → Prop) (hB hO : Nat) (d0 d1 d2 d3 : Int) (dirty alone : Bool) (σ : Store) : Prop :=
  ∃ t14 : Int, cellAt σ hB (hO + 10) = some (.int .i64 t14) ∧
  Spec Pr F.corralref18_Home_msg [.pointer (some ⟨hB, hO, none⟩), .int .i64 7, .int .i64 t14] σ fun v σ_ => ∃ t150 : Int, ∃ t151 : Int, ∃ t152 : Int, ∃ t153 : Int, ∃ t154 : Int, ∃ t155 : Int, ∃ t156 : Int, ∃ t157 : Int, ∃ t158 : Bool, ∃ t159 : Bool, ∃ t1510 : Bool, v = .agg #[.int .i64 t150, .int .i64 t151, .int .i64 t152, .int .i64 t153, .int .u32 t154, .int .u32 t155, .int .u32 t156, .int .u32 t157, .bool t158, .bool t159, .bool t1510] ∧
  New σ_ ⟨33, [.int .i64 t150, .int .i64 t151, .int .i64 t152, .int .i64 t153, .int .u32 d0, .int .u32 d1, .int .u32 d2, .int .u32 d3, .bool true, .bool dirty, .bool alone], (0, 0)⟩ fun t24B σ_1 =>
  K (.slice (some ⟨t24B, 0, none⟩) 1 1) σ_1
noncomputable def corralref18_Home_data.h (K : Value → Store → Prop) : Hand := hsel []
theorem corralref18_Home_data.m_eq (K : Value → Store → Prop) (hB hO : Nat) (d0 d1 d2 d3 : Int) (dirty alone : Bool) (σ : Store) : (segF Pr corralref18_Home_data.H F.corralref18_Home_data corralref18_Home_data.T (corralref18_Home_data.h K) K [.pointer (some ⟨hB, hO, none⟩), .agg #[.int .u32 d0, .int .u32 d1, .int .u32 d2, .int .u32 d3], .bool dirty, .bool alone] σ) = corralref18_Home_data.m K hB hO d0 d1 d2 d3 dirty alone σ := by kernel_rfl
theorem corralref18_Home_data.ok {K : Value → Store → Prop} {hB hO : Nat} {d0 d1 d2 d3 : Int} {dirty alone : Bool} {σ : Store} (h : corralref18_Home_data.m K hB hO d0 d1 d2 d3 dirty alone σ) : Spec Pr F.corralref18_Home_data [.pointer (some ⟨hB, hO, none⟩), .agg #[.int .u32 d0, .int .u32 d1, .int .u32 d2, .int .u32 d3], .bool dirty, .bool alone] σ K := by
  rw [← corralref18_Home_data.m_eq] at h
  exact segF_spec Pr_mixed (hsel_sound fun x hx => by
    cases hx) h

/-! ### corral/corralref.Sorted -/
def corralref_Sorted.H : Hints := { esc := [], cuts := [(3, [0, 3, 4], []), (6, [0, 3, 4, 5], []), (8, [0, 3, 4, 5], []), (9, [0, 3, 4, 5], []), (4, [0, 3, 4], []), (12, [3], [])] }
noncomputable def corralref_Sorted.T : Nat → List Item := stk Pr F.corralref_Sorted [(3, [1, 1, 0, 1, 0, 0]), (6, [1, 1, 0, 1, 0, 0, 1, 0, 0, 1, 0, 0, 0]), (8, [1, 1, 0, 1, 0, 0, 1, 0, 0, 1, 1]), (9, [1, 1, 0, 1, 0, 0, 1, 0, 0, 1, 1, 1]), (4, [1, 1, 0, 1, 0, 0, 1, 1]), (12, [1, 1, 1])]
abbrev corralref_Sorted.R4 : Type := Option Addr → Nat → Nat → Option Addr → Nat → Nat → Int → Store → Prop
abbrev corralref_Sorted.R9 : Type := Option Addr → Nat → Nat → Option Addr → Nat → Nat → Int → Int → Store → Prop
abbrev corralref_Sorted.R8 : Type := Option Addr → Nat → Nat → Option Addr → Nat → Nat → Int → Int → Store → Prop
abbrev corralref_Sorted.R6 : Type := Option Addr → Nat → Nat → Option Addr → Nat → Nat → Int → Int → Store → Prop
abbrev corralref_Sorted.R12 : Type := Option Addr → Nat → Nat → Store → Prop
abbrev corralref_Sorted.R3 : Type := Option Addr → Nat → Nat → Option Addr → Nat → Nat → Int → Store → Prop
def corralref_Sorted.d4 (g : corralref_Sorted.R4) : List AV → List (List Value) → Store → Prop
  | [.v (.slice lA lN lC), .v (.slice outA outN outC), .v (.int .i64 i)], [], σ => g lA lN lC outA outN outC i σ
  | _, _, _ => False
def corralref_Sorted.S4 (K : Value → Store → Prop) (lA : Option Addr) (lN lC : Nat) (outA : Option Addr) (outN outC : Nat) (i : Int) (σ : Store) : Prop := SndF Pr F.corralref_Sorted corralref_Sorted.H corralref_Sorted.T K 4 [.v (.slice lA lN lC), .v (.slice outA outN outC), .v (.int .i64 i)] [] σ
def corralref_Sorted.j4 (K : Value → Store → Prop) (r3 : corralref_Sorted.R3) (lA : Option Addr) (lN lC : Nat) (outA : Option Addr) (outN outC : Nat) (i : Int) (σ : Store) : Prop :=
  Hop (corralref_Sorted.T 3) (corralref_Sorted.T 3) (r3 lA lN lC outA outN outC (IntKind.wrap .i64 (i + 1)) σ)
def corralref_Sorted.d9 (g : corralref_Sorted.R9) : List AV → List (List Value) → Store → Prop
  | [.v (.slice lA lN lC), .v (.slice outA outN outC), .v (.int .i64 i), .v (.int .i64 k)], [], σ => g lA lN lC outA outN outC i k σ
  | _, _, _ => False
def corralref_Sorted.S9 (K : Value → Store → Prop) (lA : Option Addr) (lN lC : Nat) (outA : Option Addr) (outN outC : Nat) (i k : Int) (σ : Store) : Prop := SndF Pr F.corralref_Sorted corralref_Sorted.H corralref_Sorted.T K 9 [.v (.slice lA lN lC), .v (.slice outA outN outC), .v (.int .i64 i), .v (.int .i64 k)] [] σ
def corralref_Sorted.j9 (K : Value → Store → Prop) (r3 : corralref_Sorted.R3) (lA : Option Addr) (lN lC : Nat) (outA : Option Addr) (outN outC : Nat) (i k : Int) (σ : Store) : Prop :=
  Req (okIdx k outC) (
    MakeK 3 8 [.int .i64 0] σ 0 (IntKind.wrap .i64 (((outN : Nat) : Int) + 1)) fun t48B t48N t48C σ_ =>
    ∃ ys : List Value, srcCells σ_ (slAddr outA 0 outC 1) (k.toNat * 1) = some ys ∧
    AppK 3 1 8 [.int .i64 0] σ_ (some ⟨t48B, 0, none⟩) t48N t48C ys k.toNat fun t52A t52N t52C σ_1 =>
    Req (decide (0 ≤ i) && decide (i < ((lN : Nat) : Int))) (
      PtrNN lA fun t56B t56O =>
      ∃ t57 : Int, cellAt σ_1 t56B (t56O + i.toNat * 1) = some (.int .i64 t57) ∧
      AppK 3 1 8 [.int .i64 0] σ_1 t52A t52N t52C [.int .i64 t57] 1 fun t59A t59N t59C σ_2 =>
      Req (okIdx k outN) (
        ∃ ys1 : List Value, srcCells σ_2 (slAddr outA k.toNat outC 1) ((outN - k.toNat) * 1) = some ys1 ∧
        AppK 3 1 8 [.int .i64 0] σ_2 t59A t59N t59C ys1 (outN - k.toNat) fun t64A t64N t64C σ_3 =>
        Hop (corralref_Sorted.T 4) (corralref_Sorted.T 4) (corralref_Sorted.j4 K r3 lA lN lC t64A t64N t64C i σ_3))))
def corralref_Sorted.d8 (g : corralref_Sorted.R8) : List AV → List (List Value) → Store → Prop
  | [.v (.slice lA lN lC), .v (.slice outA outN outC), .v (.int .i64 i), .v (.int .i64 k)], [], σ => g lA lN lC outA outN outC i k σ
  | _, _, _ => False
def corralref_Sorted.S8 (K : Value → Store → Prop) (lA : Option Addr) (lN lC : Nat) (outA : Option Addr) (outN outC : Nat) (i k : Int) (σ : Store) : Prop := SndF Pr F.corralref_Sorted corralref_Sorted.H corralref_Sorted.T K 8 [.v (.slice lA lN lC), .v (.slice outA outN outC), .v (.int .i64 i), .v (.int .i64 k)] [] σ
def corralref_Sorted.j8 (K : Value → Store → Prop) (r3 : corralref_Sorted.R3) (lA : Option Addr) (lN lC : Nat) (outA : Option Addr) (outN outC : Nat) (i k : Int) (σ : Store) : Prop :=
  cond (decide (k < ((outN : Nat) : Int)))
  (Req (decide (0 ≤ k) && decide (k < ((outN : Nat) : Int))) (
      PtrNN outA fun t37B t37O =>
      ∃ t38 : Int, cellAt σ t37B (t37O + k.toNat * 1) = some (.int .i64 t38) ∧
      Req (decide (0 ≤ i) && decide (i < ((lN : Nat) : Int))) (
        PtrNN lA fun t41B t41O =>
        ∃ t42 : Int, cellAt σ t41B (t41O + i.toNat * 1) = some (.int .i64 t42) ∧
        cond (t38 == t42)
        (Hop (corralref_Sorted.T 4) (corralref_Sorted.T 4) (corralref_Sorted.j4 K r3 lA lN lC outA outN outC i σ))
        (Hop (corralref_Sorted.T 9) (corralref_Sorted.T 9) (corralref_Sorted.j9 K r3 lA lN lC outA outN outC i k σ)))))
  (Hop (corralref_Sorted.T 9) (corralref_Sorted.T 9) (corralref_Sorted.j9 K r3 lA lN lC outA outN outC i k σ))
def corralref_Sorted.d6 (g : corralref_Sorted.R6) : List AV → List (List Value) → Store → Prop
  | [.v (.slice lA lN lC), .v (.slice outA outN outC), .v (.int .i64 i), .v (.int .i64 k)], [], σ => g lA lN lC outA outN outC i k σ
  | _, _, _ => False
def corralref_Sorted.S6 (K : Value → Store → Prop) (lA : Option Addr) (lN lC : Nat) (outA : Option Addr) (outN outC : Nat) (i k : Int) (σ : Store) : Prop := SndF Pr F.corralref_Sorted corralref_Sorted.H corralref_Sorted.T K 6 [.v (.slice lA lN lC), .v (.slice outA outN outC), .v (.int .i64 i), .v (.int .i64 k)] [] σ
def corralref_Sorted.b6 (K : Value → Store → Prop) (r3 : corralref_Sorted.R3) (r6 : corralref_Sorted.R6) (lA : Option Addr) (lN lC : Nat) (outA : Option Addr) (outN outC : Nat) (i k : Int) (σ : Store) : Prop :=
  cond (decide (k < ((outN : Nat) : Int)))
  (Req (decide (0 ≤ k) && decide (k < ((outN : Nat) : Int))) (
      PtrNN outA fun t20B t20O =>
      ∃ t21 : Int, cellAt σ t20B (t20O + k.toNat * 1) = some (.int .i64 t21) ∧
      Req (decide (0 ≤ i) && decide (i < ((lN : Nat) : Int))) (
        PtrNN lA fun t24B t24O =>
        ∃ t25 : Int, cellAt σ t24B (t24O + i.toNat * 1) = some (.int .i64 t25) ∧
        cond (decide (t21 < t25))
        (Hop (corralref_Sorted.T 6) (corralref_Sorted.T 6) (r6 lA lN lC outA outN outC i (IntKind.wrap .i64 (k + 1)) σ))
        (Hop (corralref_Sorted.T 8) (corralref_Sorted.T 8) (corralref_Sorted.j8 K r3 lA lN lC outA outN outC i k σ)))))
  (Hop (corralref_Sorted.T 8) (corralref_Sorted.T 8) (corralref_Sorted.j8 K r3 lA lN lC outA outN outC i k σ))
def corralref_Sorted.l6 (K : Value → Store → Prop) (r3 : corralref_Sorted.R3) : Nat → corralref_Sorted.R6
  | 0, _, _, _, _, _, _, _, _, _ => False
  | n + 1, lA, lN, lC, outA, outN, outC, i, k, σ => corralref_Sorted.b6 K r3 (corralref_Sorted.l6 K r3 n) lA lN lC outA outN outC i k σ
def corralref_Sorted.d12 (g : corralref_Sorted.R12) : List AV → List (List Value) → Store → Prop
  | [.v (.slice outA outN outC)], [], σ => g outA outN outC σ
  | _, _, _ => False
def corralref_Sorted.S12 (K : Value → Store → Prop) (outA : Option Addr) (outN outC : Nat) (σ : Store) : Prop := SndF Pr F.corralref_Sorted corralref_Sorted.H corralref_Sorted.T K 12 [.v (.slice outA outN outC)] [] σ
def corralref_Sorted.j12 (K : Value → Store → Prop) (outA : Option Addr) (outN outC : Nat) (σ : Store) : Prop :=
  K (.slice outA outN outC) σ
def corralref_Sorted.d3 (g : corralref_Sorted.R3) : List AV → List (List Value) → Store → Prop
  | [.v (.slice lA lN lC), .v (.slice outA outN outC), .v (.int .i64 i)], [], σ => g lA lN lC outA outN outC i σ
  | _, _, _ => False
def corralref_Sorted.S3 (K : Value → Store → Prop) (lA : Option Addr) (lN lC : Nat) (outA : Option Addr) (outN outC : Nat) (i : Int) (σ : Store) : Prop := SndF Pr F.corralref_Sorted corralref_Sorted.H corralref_Sorted.T K 3 [.v (.slice lA lN lC), .v (.slice outA outN outC), .v (.int .i64 i)] [] σ
def corralref_Sorted.b3 (K : Value → Store → Prop) (r3 : corralref_Sorted.R3) (lA : Option Addr) (lN lC : Nat) (outA : Option Addr) (outN outC : Nat) (i : Int) (σ : Store) : Prop :=
  cond (decide (i < ((lN : Nat) : Int)))
  (Hop (corralref_Sorted.T 6) (corralref_Sorted.T 6) (∃ n : Nat, corralref_Sorted.l6 K r3 n lA lN lC outA outN outC i 0 σ))
  (Hop (corralref_Sorted.T 12) (corralref_Sorted.T 12) (corralref_Sorted.j12 K outA outN outC σ))
def corralref_Sorted.l3 (K : Value → Store → Prop) : Nat → corralref_Sorted.R3
  | 0, _, _, _, _, _, _, _, _ => False
  | n + 1, lA, lN, lC, outA, outN, outC, i, σ => corralref_Sorted.b3 K (corralref_Sorted.l3 K n) lA lN lC outA outN outC i σ
def corralref_Sorted.m (K : Value → Store → Prop) (lA : Option Addr) (lN lC : Nat) (σ : Store) : Prop :=
  Hop (corralref_Sorted.T 3) (corralref_Sorted.T 3) (∃ n : Nat, corralref_Sorted.l3 K n lA lN lC none 0 0 0 σ)
theorem corralref_Sorted.d4_ok {K : Value → Store → Prop} {g : corralref_Sorted.R4} (hg : ∀ lA lN lC outA outN outC i σ, g lA lN lC outA outN outC i σ → corralref_Sorted.S4 K lA lN lC outA outN outC i σ) (vs : List AV) (bs : List (List Value)) (σ : Store) (h : corralref_Sorted.d4 g vs bs σ) : SndF Pr F.corralref_Sorted corralref_Sorted.H corralref_Sorted.T K 4 vs bs σ := by
  unfold corralref_Sorted.d4 at h
  split at h
  · exact hg _ _ _ _ _ _ _ _ h
  · exact h.elim
theorem corralref_Sorted.d9_ok {K : Value → Store → Prop} {g : corralref_Sorted.R9} (hg : ∀ lA lN lC outA outN outC i k σ, g lA lN lC outA outN outC i k σ → corralref_Sorted.S9 K lA lN lC outA outN outC i k σ) (vs : List AV) (bs : List (List Value)) (σ : Store) (h : corralref_Sorted.d9 g vs bs σ) : SndF Pr F.corralref_Sorted corralref_Sorted.H corralref_Sorted.T K 9 vs bs σ := by
  unfold corralref_Sorted.d9 at h
  split at h
  · exact hg _ _ _ _ _ _ _ _ _ h
  · exact h.elim
theorem corralref_Sorted.d8_ok {K : Value → Store → Prop} {g : corralref_Sorted.R8} (hg : ∀ lA lN lC outA outN outC i k σ, g lA lN lC outA outN outC i k σ → corralref_Sorted.S8 K lA lN lC outA outN outC i k σ) (vs : List AV) (bs : List (List Value)) (σ : Store) (h : corralref_Sorted.d8 g vs bs σ) : SndF Pr F.corralref_Sorted corralref_Sorted.H corralref_Sorted.T K 8 vs bs σ := by
  unfold corralref_Sorted.d8 at h
  split at h
  · exact hg _ _ _ _ _ _ _ _ _ h
  · exact h.elim
theorem corralref_Sorted.d6_ok {K : Value → Store → Prop} {g : corralref_Sorted.R6} (hg : ∀ lA lN lC outA outN outC i k σ, g lA lN lC outA outN outC i k σ → corralref_Sorted.S6 K lA lN lC outA outN outC i k σ) (vs : List AV) (bs : List (List Value)) (σ : Store) (h : corralref_Sorted.d6 g vs bs σ) : SndF Pr F.corralref_Sorted corralref_Sorted.H corralref_Sorted.T K 6 vs bs σ := by
  unfold corralref_Sorted.d6 at h
  split at h
  · exact hg _ _ _ _ _ _ _ _ _ h
  · exact h.elim
theorem corralref_Sorted.d12_ok {K : Value → Store → Prop} {g : corralref_Sorted.R12} (hg : ∀ outA outN outC σ, g outA outN outC σ → corralref_Sorted.S12 K outA outN outC σ) (vs : List AV) (bs : List (List Value)) (σ : Store) (h : corralref_Sorted.d12 g vs bs σ) : SndF Pr F.corralref_Sorted corralref_Sorted.H corralref_Sorted.T K 12 vs bs σ := by
  unfold corralref_Sorted.d12 at h
  split at h
  · exact hg _ _ _ _ h
  · exact h.elim
theorem corralref_Sorted.d3_ok {K : Value → Store → Prop} {g : corralref_Sorted.R3} (hg : ∀ lA lN lC outA outN outC i σ, g lA lN lC outA outN outC i σ → corralref_Sorted.S3 K lA lN lC outA outN outC i σ) (vs : List AV) (bs : List (List Value)) (σ : Store) (h : corralref_Sorted.d3 g vs bs σ) : SndF Pr F.corralref_Sorted corralref_Sorted.H corralref_Sorted.T K 3 vs bs σ := by
  unfold corralref_Sorted.d3 at h
  split at h
  · exact hg _ _ _ _ _ _ _ _ h
  · exact h.elim
noncomputable def corralref_Sorted.h4 (K : Value → Store → Prop) (r3 : corralref_Sorted.R3) : Hand := hsel [(3, corralref_Sorted.d3 r3)]
theorem corralref_Sorted.j4_eq (K : Value → Store → Prop) (r3 : corralref_Sorted.R3) (lA : Option Addr) (lN lC : Nat) (outA : Option Addr) (outN outC : Nat) (i : Int) (σ : Store) : (seg Pr corralref_Sorted.H F.corralref_Sorted corralref_Sorted.T (corralref_Sorted.h4 K r3) K (corralref_Sorted.T 4) (Ev.cutE corralref_Sorted.H 4 [.v (.slice lA lN lC), .v (.slice outA outN outC), .v (.int .i64 i)] []) σ) = corralref_Sorted.j4 K r3 lA lN lC outA outN outC i σ := by kernel_rfl
theorem corralref_Sorted.j4_ok (K : Value → Store → Prop) (r3 : corralref_Sorted.R3) (h3 : ∀ lA lN lC outA outN outC i σ, r3 lA lN lC outA outN outC i σ → corralref_Sorted.S3 K lA lN lC outA outN outC i σ) (lA : Option Addr) (lN lC : Nat) (outA : Option Addr) (outN outC : Nat) (i : Int) (σ : Store) (h : corralref_Sorted.j4 K r3 lA lN lC outA outN outC i σ) : corralref_Sorted.S4 K lA lN lC outA outN outC i σ := by
  rw [← corralref_Sorted.j4_eq] at h
  exact seg_snd Pr_mixed (hsel_sound fun x hx => by
    simp only [List.mem_cons, List.not_mem_nil, or_false] at hx
    subst hx
    exact corralref_Sorted.d3_ok h3) h
noncomputable def corralref_Sorted.h9 (K : Value → Store → Prop) (r3 : corralref_Sorted.R3) : Hand := hsel [(4, corralref_Sorted.d4 (corralref_Sorted.j4 K r3)), (3, corralref_Sorted.d3 r3)]
theorem corralref_Sorted.j9_eq (K : Value → Store → Prop) (r3 : corralref_Sorted.R3) (lA : Option Addr) (lN lC : Nat) (outA : Option Addr) (outN outC : Nat) (i k : Int) (σ : Store) : (seg Pr corralref_Sorted.H F.corralref_Sorted corralref_Sorted.T (corralref_Sorted.h9 K r3) K (corralref_Sorted.T 9) (Ev.cutE corralref_Sorted.H 9 [.v (.slice lA lN lC), .v (.slice outA outN outC), .v (.int .i64 i), .v (.int .i64 k)] []) σ) = corralref_Sorted.j9 K r3 lA lN lC outA outN outC i k σ := by kernel_rfl
theorem corralref_Sorted.j9_ok (K : Value → Store → Prop) (r3 : corralref_Sorted.R3) (h3 : ∀ lA lN lC outA outN outC i σ, r3 lA lN lC outA outN outC i σ → corralref_Sorted.S3 K lA lN lC outA outN outC i σ) (lA : Option Addr) (lN lC : Nat) (outA : Option Addr) (outN outC : Nat) (i k : Int) (σ : Store) (h : corralref_Sorted.j9 K r3 lA lN lC outA outN outC i k σ) : corralref_Sorted.S9 K lA lN lC outA outN outC i k σ := by
  rw [← corralref_Sorted.j9_eq] at h
  exact seg_snd Pr_mixed (hsel_sound fun x hx => by
    simp only [List.mem_cons, List.not_mem_nil, or_false] at hx
    rcases hx with rfl | rfl
    · exact corralref_Sorted.d4_ok fun _ _ _ _ _ _ _ _ h => corralref_Sorted.j4_ok K r3 h3 _ _ _ _ _ _ _ _ h
    · exact corralref_Sorted.d3_ok h3) h
noncomputable def corralref_Sorted.h8 (K : Value → Store → Prop) (r3 : corralref_Sorted.R3) : Hand := hsel [(4, corralref_Sorted.d4 (corralref_Sorted.j4 K r3)), (9, corralref_Sorted.d9 (corralref_Sorted.j9 K r3)), (3, corralref_Sorted.d3 r3)]
theorem corralref_Sorted.j8_eq (K : Value → Store → Prop) (r3 : corralref_Sorted.R3) (lA : Option Addr) (lN lC : Nat) (outA : Option Addr) (outN outC : Nat) (i k : Int) (σ : Store) : (seg Pr corralref_Sorted.H F.corralref_Sorted corralref_Sorted.T (corralref_Sorted.h8 K r3) K (corralref_Sorted.T 8) (Ev.cutE corralref_Sorted.H 8 [.v (.slice lA lN lC), .v (.slice outA outN outC), .v (.int .i64 i), .v (.int .i64 k)] []) σ) = corralref_Sorted.j8 K r3 lA lN lC outA outN outC i k σ := by kernel_rfl
theorem corralref_Sorted.j8_ok (K : Value → Store → Prop) (r3 : corralref_Sorted.R3) (h3 : ∀ lA lN lC outA outN outC i σ, r3 lA lN lC outA outN outC i σ → corralref_Sorted.S3 K lA lN lC outA outN outC i σ) (lA : Option Addr) (lN lC : Nat) (outA : Option Addr) (outN outC : Nat) (i k : Int) (σ : Store) (h : corralref_Sorted.j8 K r3 lA lN lC outA outN outC i k σ) : corralref_Sorted.S8 K lA lN lC outA outN outC i k σ := by
  rw [← corralref_Sorted.j8_eq] at h
  exact seg_snd Pr_mixed (hsel_sound fun x hx => by
    simp only [List.mem_cons, List.not_mem_nil, or_false] at hx
    rcases hx with rfl | rfl | rfl
    · exact corralref_Sorted.d4_ok fun _ _ _ _ _ _ _ _ h => corralref_Sorted.j4_ok K r3 h3 _ _ _ _ _ _ _ _ h
    · exact corralref_Sorted.d9_ok fun _ _ _ _ _ _ _ _ _ h => corralref_Sorted.j9_ok K r3 h3 _ _ _ _ _ _ _ _ _ h
    · exact corralref_Sorted.d3_ok h3) h
noncomputable def corralref_Sorted.h6 (K : Value → Store → Prop) (r3 : corralref_Sorted.R3) (r6 : corralref_Sorted.R6) : Hand := hsel [(8, corralref_Sorted.d8 (corralref_Sorted.j8 K r3)), (3, corralref_Sorted.d3 r3), (6, corralref_Sorted.d6 r6)]
theorem corralref_Sorted.b6_eq (K : Value → Store → Prop) (r3 : corralref_Sorted.R3) (r6 : corralref_Sorted.R6) (lA : Option Addr) (lN lC : Nat) (outA : Option Addr) (outN outC : Nat) (i k : Int) (σ : Store) : (seg Pr corralref_Sorted.H F.corralref_Sorted corralref_Sorted.T (corralref_Sorted.h6 K r3 r6) K (corralref_Sorted.T 6) (Ev.cutE corralref_Sorted.H 6 [.v (.slice lA lN lC), .v (.slice outA outN outC), .v (.int .i64 i), .v (.int .i64 k)] []) σ) = corralref_Sorted.b6 K r3 r6 lA lN lC outA outN outC i k σ := by kernel_rfl
theorem corralref_Sorted.b6_ok (K : Value → Store → Prop) (r3 : corralref_Sorted.R3) (h3 : ∀ lA lN lC outA outN outC i σ, r3 lA lN lC outA outN outC i σ → corralref_Sorted.S3 K lA lN lC outA outN outC i σ) (r6 : corralref_Sorted.R6) (h6 : ∀ lA lN lC outA outN outC i k σ, r6 lA lN lC outA outN outC i k σ → corralref_Sorted.S6 K lA lN lC outA outN outC i k σ) (lA : Option Addr) (lN lC : Nat) (outA : Option Addr) (outN outC : Nat) (i k : Int) (σ : Store) (h : corralref_Sorted.b6 K r3 r6 lA lN lC outA outN outC i k σ) : corralref_Sorted.S6 K lA lN lC outA outN outC i k σ := by
  rw [← corralref_Sorted.b6_eq] at h
  exact seg_snd Pr_mixed (hsel_sound fun x hx => by
    simp only [List.mem_cons, List.not_mem_nil, or_false] at hx
    rcases hx with rfl | rfl | rfl
    · exact corralref_Sorted.d8_ok fun _ _ _ _ _ _ _ _ _ h => corralref_Sorted.j8_ok K r3 h3 _ _ _ _ _ _ _ _ _ h
    · exact corralref_Sorted.d3_ok h3
    · exact corralref_Sorted.d6_ok h6) h
theorem corralref_Sorted.l6_ok (K : Value → Store → Prop) (r3 : corralref_Sorted.R3) (h3 : ∀ lA lN lC outA outN outC i σ, r3 lA lN lC outA outN outC i σ → corralref_Sorted.S3 K lA lN lC outA outN outC i σ) : ∀ (n : Nat) (lA : Option Addr) (lN lC : Nat) (outA : Option Addr) (outN outC : Nat) (i k : Int) (σ : Store), corralref_Sorted.l6 K r3 n lA lN lC outA outN outC i k σ → corralref_Sorted.S6 K lA lN lC outA outN outC i k σ
  | 0, _, _, _, _, _, _, _, _, _, h => h.elim
  | n + 1, _, _, _, _, _, _, _, _, _, h => corralref_Sorted.b6_ok K r3 h3 (corralref_Sorted.l6 K r3 n) (corralref_Sorted.l6_ok K r3 h3 n) _ _ _ _ _ _ _ _ _ h
noncomputable def corralref_Sorted.h12 (K : Value → Store → Prop) : Hand := hsel []
theorem corralref_Sorted.j12_eq (K : Value → Store → Prop) (outA : Option Addr) (outN outC : Nat) (σ : Store) : (seg Pr corralref_Sorted.H F.corralref_Sorted corralref_Sorted.T (corralref_Sorted.h12 K ) K (corralref_Sorted.T 12) (Ev.cutE corralref_Sorted.H 12 [.v (.slice outA outN outC)] []) σ) = corralref_Sorted.j12 K outA outN outC σ := by kernel_rfl
theorem corralref_Sorted.j12_ok (K : Value → Store → Prop) (outA : Option Addr) (outN outC : Nat) (σ : Store) (h : corralref_Sorted.j12 K outA outN outC σ) : corralref_Sorted.S12 K outA outN outC σ := by
  rw [← corralref_Sorted.j12_eq] at h
  exact seg_snd Pr_mixed (hsel_sound fun x hx => by
    cases hx) h
noncomputable def corralref_Sorted.h3 (K : Value → Store → Prop) (r3 : corralref_Sorted.R3) : Hand := hsel [(6, corralref_Sorted.d6 fun lA lN lC outA outN outC i k σ => ∃ n : Nat, corralref_Sorted.l6 K r3 n lA lN lC outA outN outC i k σ), (12, corralref_Sorted.d12 (corralref_Sorted.j12 K )), (3, corralref_Sorted.d3 r3)]
theorem corralref_Sorted.b3_eq (K : Value → Store → Prop) (r3 : corralref_Sorted.R3) (lA : Option Addr) (lN lC : Nat) (outA : Option Addr) (outN outC : Nat) (i : Int) (σ : Store) : (seg Pr corralref_Sorted.H F.corralref_Sorted corralref_Sorted.T (corralref_Sorted.h3 K r3) K (corralref_Sorted.T 3) (Ev.cutE corralref_Sorted.H 3 [.v (.slice lA lN lC), .v (.slice outA outN outC), .v (.int .i64 i)] []) σ) = corralref_Sorted.b3 K r3 lA lN lC outA outN outC i σ := by kernel_rfl
theorem corralref_Sorted.b3_ok (K : Value → Store → Prop) (r3 : corralref_Sorted.R3) (h3 : ∀ lA lN lC outA outN outC i σ, r3 lA lN lC outA outN outC i σ → corralref_Sorted.S3 K lA lN lC outA outN outC i σ) (lA : Option Addr) (lN lC : Nat) (outA : Option Addr) (outN outC : Nat) (i : Int) (σ : Store) (h : corralref_Sorted.b3 K r3 lA lN lC outA outN outC i σ) : corralref_Sorted.S3 K lA lN lC outA outN outC i σ := by
  rw [← corralref_Sorted.b3_eq] at h
  exact seg_snd Pr_mixed (hsel_sound fun x hx => by
    simp only [List.mem_cons, List.not_mem_nil, or_false] at hx
    rcases hx with rfl | rfl | rfl
    · exact corralref_Sorted.d6_ok fun _ _ _ _ _ _ _ _ _ ⟨n, h⟩ => corralref_Sorted.l6_ok K r3 h3 n _ _ _ _ _ _ _ _ _ h
    · exact corralref_Sorted.d12_ok fun _ _ _ _ h => corralref_Sorted.j12_ok K _ _ _ _ h
    · exact corralref_Sorted.d3_ok h3) h
theorem corralref_Sorted.l3_ok (K : Value → Store → Prop) : ∀ (n : Nat) (lA : Option Addr) (lN lC : Nat) (outA : Option Addr) (outN outC : Nat) (i : Int) (σ : Store), corralref_Sorted.l3 K n lA lN lC outA outN outC i σ → corralref_Sorted.S3 K lA lN lC outA outN outC i σ
  | 0, _, _, _, _, _, _, _, _, h => h.elim
  | n + 1, _, _, _, _, _, _, _, _, h => corralref_Sorted.b3_ok K (corralref_Sorted.l3 K n) (corralref_Sorted.l3_ok K n) _ _ _ _ _ _ _ _ h
noncomputable def corralref_Sorted.h (K : Value → Store → Prop) : Hand := hsel [(3, corralref_Sorted.d3 fun lA lN lC outA outN outC i σ => ∃ n : Nat, corralref_Sorted.l3 K n lA lN lC outA outN outC i σ)]
theorem corralref_Sorted.m_eq (K : Value → Store → Prop) (lA : Option Addr) (lN lC : Nat) (σ : Store) : (segF Pr corralref_Sorted.H F.corralref_Sorted corralref_Sorted.T (corralref_Sorted.h K) K [.slice lA lN lC] σ) = corralref_Sorted.m K lA lN lC σ := by kernel_rfl
theorem corralref_Sorted.ok {K : Value → Store → Prop} {lA : Option Addr} {lN lC : Nat} {σ : Store} (h : corralref_Sorted.m K lA lN lC σ) : Spec Pr F.corralref_Sorted [.slice lA lN lC] σ K := by
  rw [← corralref_Sorted.m_eq] at h
  exact segF_spec Pr_mixed (hsel_sound fun x hx => by
    simp only [List.mem_cons, List.not_mem_nil, or_false] at hx
    subst hx
    exact corralref_Sorted.d3_ok fun _ _ _ _ _ _ _ _ ⟨n, h⟩ => corralref_Sorted.l3_ok K n _ _ _ _ _ _ _ _ h) h

/-! ### corral/corralref.Ints -/
def corralref_Ints.H : Hints := { esc := [], cuts := [(3, [0, 3, 4], []), (6, [3], [])] }
noncomputable def corralref_Ints.T : Nat → List Item := stk Pr F.corralref_Ints [(3, [1, 1, 0, 1, 0, 0]), (6, [1, 1, 1])]
abbrev corralref_Ints.R6 : Type := Option Addr → Nat → Nat → Store → Prop
abbrev corralref_Ints.R3 : Type := Option Addr → Nat → Nat → Option Addr → Nat → Nat → Int → Store → Prop
def corralref_Ints.d6 (g : corralref_Ints.R6) : List AV → List (List Value) → Store → Prop
  | [.v (.slice outA outN outC)], [], σ => g outA outN outC σ
  | _, _, _ => False
def corralref_Ints.S6 (K : Value → Store → Prop) (outA : Option Addr) (outN outC : Nat) (σ : Store) : Prop := SndF Pr F.corralref_Ints corralref_Ints.H corralref_Ints.T K 6 [.v (.slice outA outN outC)] [] σ
def corralref_Ints.j6 (K : Value → Store → Prop) (outA : Option Addr) (outN outC : Nat) (σ : Store) : Prop :=
  K (.slice outA outN outC) σ
def corralref_Ints.d3 (g : corralref_Ints.R3) : List AV → List (List Value) → Store → Prop
  | [.v (.slice lA lN lC), .v (.slice outA outN outC), .v (.int .i64 i)], [], σ => g lA lN lC outA outN outC i σ
  | _, _, _ => False
def corralref_Ints.S3 (K : Value → Store → Prop) (lA : Option Addr) (lN lC : Nat) (outA : Option Addr) (outN outC : Nat) (i : Int) (σ : Store) : Prop := SndF Pr F.corralref_Ints corralref_Ints.H corralref_Ints.T K 3 [.v (.slice lA lN lC), .v (.slice outA outN outC), .v (.int .i64 i)] [] σ
def corralref_Ints.b3 (K : Value → Store → Prop) (r3 : corralref_Ints.R3) (lA : Option Addr) (lN lC : Nat) (outA : Option Addr) (outN outC : Nat) (i : Int) (σ : Store) : Prop :=
  cond (decide (i < ((lN : Nat) : Int)))
  (Req (decide (0 ≤ i) && decide (i < ((lN : Nat) : Int))) (
      PtrNN lA fun t17B t17O =>
      ∃ t18 : Int, cellAt σ t17B (t17O + i.toNat * 1) = some (.int .i64 t18) ∧
      AppK 3 1 8 [.int .i64 0] σ outA outN outC [.int .i64 t18] 1 fun t20A t20N t20C σ_ =>
      Hop (corralref_Ints.T 3) (corralref_Ints.T 3) (r3 lA lN lC t20A t20N t20C (IntKind.wrap .i64 (i + 1)) σ_)))
  (Hop (corralref_Ints.T 6) (corralref_Ints.T 6) (corralref_Ints.j6 K outA outN outC σ))
def corralref_Ints.l3 (K : Value → Store → Prop) : Nat → corralref_Ints.R3
  | 0, _, _, _, _, _, _, _, _ => False
  | n + 1, lA, lN, lC, outA, outN, outC, i, σ => corralref_Ints.b3 K (corralref_Ints.l3 K n) lA lN lC outA outN outC i σ
def corralref_Ints.m (K : Value → Store → Prop) (lA : Option Addr) (lN lC : Nat) (σ : Store) : Prop :=
  MakeK 3 8 [.int .i64 0] σ 0 ((lN : Nat) : Int) fun t7B t7N t7C σ_ =>
  Hop (corralref_Ints.T 3) (corralref_Ints.T 3) (∃ n : Nat, corralref_Ints.l3 K n lA lN lC (some ⟨t7B, 0, none⟩) t7N t7C 0 σ_)
theorem corralref_Ints.d6_ok {K : Value → Store → Prop} {g : corralref_Ints.R6} (hg : ∀ outA outN outC σ, g outA outN outC σ → corralref_Ints.S6 K outA outN outC σ) (vs : List AV) (bs : List (List Value)) (σ : Store) (h : corralref_Ints.d6 g vs bs σ) : SndF Pr F.corralref_Ints corralref_Ints.H corralref_Ints.T K 6 vs bs σ := by
  unfold corralref_Ints.d6 at h
  split at h
  · exact hg _ _ _ _ h
  · exact h.elim
theorem corralref_Ints.d3_ok {K : Value → Store → Prop} {g : corralref_Ints.R3} (hg : ∀ lA lN lC outA outN outC i σ, g lA lN lC outA outN outC i σ → corralref_Ints.S3 K lA lN lC outA outN outC i σ) (vs : List AV) (bs : List (List Value)) (σ : Store) (h : corralref_Ints.d3 g vs bs σ) : SndF Pr F.corralref_Ints corralref_Ints.H corralref_Ints.T K 3 vs bs σ := by
  unfold corralref_Ints.d3 at h
  split at h
  · exact hg _ _ _ _ _ _ _ _ h
  · exact h.elim
noncomputable def corralref_Ints.h6 (K : Value → Store → Prop) : Hand := hsel []
theorem corralref_Ints.j6_eq (K : Value → Store → Prop) (outA : Option Addr) (outN outC : Nat) (σ : Store) : (seg Pr corralref_Ints.H F.corralref_Ints corralref_Ints.T (corralref_Ints.h6 K ) K (corralref_Ints.T 6) (Ev.cutE corralref_Ints.H 6 [.v (.slice outA outN outC)] []) σ) = corralref_Ints.j6 K outA outN outC σ := by kernel_rfl
theorem corralref_Ints.j6_ok (K : Value → Store → Prop) (outA : Option Addr) (outN outC : Nat) (σ : Store) (h : corralref_Ints.j6 K outA outN outC σ) : corralref_Ints.S6 K outA outN outC σ := by
  rw [← corralref_Ints.j6_eq] at h
  exact seg_snd Pr_mixed (hsel_sound fun x hx => by
    cases hx) h
noncomputable def corralref_Ints.h3 (K : Value → Store → Prop) (r3 : corralref_Ints.R3) : Hand := hsel [(6, corralref_Ints.d6 (corralref_Ints.j6 K )), (3, corralref_Ints.d3 r3)]
theorem corralref_Ints.b3_eq (K : Value → Store → Prop) (r3 : corralref_Ints.R3) (lA : Option Addr) (lN lC : Nat) (outA : Option Addr) (outN outC : Nat) (i : Int) (σ : Store) : (seg Pr corralref_Ints.H F.corralref_Ints corralref_Ints.T (corralref_Ints.h3 K r3) K (corralref_Ints.T 3) (Ev.cutE corralref_Ints.H 3 [.v (.slice lA lN lC), .v (.slice outA outN outC), .v (.int .i64 i)] []) σ) = corralref_Ints.b3 K r3 lA lN lC outA outN outC i σ := by kernel_rfl
theorem corralref_Ints.b3_ok (K : Value → Store → Prop) (r3 : corralref_Ints.R3) (h3 : ∀ lA lN lC outA outN outC i σ, r3 lA lN lC outA outN outC i σ → corralref_Ints.S3 K lA lN lC outA outN outC i σ) (lA : Option Addr) (lN lC : Nat) (outA : Option Addr) (outN outC : Nat) (i : Int) (σ : Store) (h : corralref_Ints.b3 K r3 lA lN lC outA outN outC i σ) : corralref_Ints.S3 K lA lN lC outA outN outC i σ := by
  rw [← corralref_Ints.b3_eq] at h
  exact seg_snd Pr_mixed (hsel_sound fun x hx => by
    simp only [List.mem_cons, List.not_mem_nil, or_false] at hx
    rcases hx with rfl | rfl
    · exact corralref_Ints.d6_ok fun _ _ _ _ h => corralref_Ints.j6_ok K _ _ _ _ h
    · exact corralref_Ints.d3_ok h3) h
theorem corralref_Ints.l3_ok (K : Value → Store → Prop) : ∀ (n : Nat) (lA : Option Addr) (lN lC : Nat) (outA : Option Addr) (outN outC : Nat) (i : Int) (σ : Store), corralref_Ints.l3 K n lA lN lC outA outN outC i σ → corralref_Ints.S3 K lA lN lC outA outN outC i σ
  | 0, _, _, _, _, _, _, _, _, h => h.elim
  | n + 1, _, _, _, _, _, _, _, _, h => corralref_Ints.b3_ok K (corralref_Ints.l3 K n) (corralref_Ints.l3_ok K n) _ _ _ _ _ _ _ _ h
noncomputable def corralref_Ints.h (K : Value → Store → Prop) : Hand := hsel [(3, corralref_Ints.d3 fun lA lN lC outA outN outC i σ => ∃ n : Nat, corralref_Ints.l3 K n lA lN lC outA outN outC i σ)]
theorem corralref_Ints.m_eq (K : Value → Store → Prop) (lA : Option Addr) (lN lC : Nat) (σ : Store) : (segF Pr corralref_Ints.H F.corralref_Ints corralref_Ints.T (corralref_Ints.h K) K [.slice lA lN lC] σ) = corralref_Ints.m K lA lN lC σ := by kernel_rfl
theorem corralref_Ints.ok {K : Value → Store → Prop} {lA : Option Addr} {lN lC : Nat} {σ : Store} (h : corralref_Ints.m K lA lN lC σ) : Spec Pr F.corralref_Ints [.slice lA lN lC] σ K := by
  rw [← corralref_Ints.m_eq] at h
  exact segF_spec Pr_mixed (hsel_sound fun x hx => by
    simp only [List.mem_cons, List.not_mem_nil, or_false] at hx
    subst hx
    exact corralref_Ints.d3_ok fun _ _ _ _ _ _ _ _ ⟨n, h⟩ => corralref_Ints.l3_ok K n _ _ _ _ _ _ _ _ h) h

/-! ### (*corral/corralref18.Home).give -/
def corralref18_Home_give.H : Hints := { esc := [25], cuts := [] }
noncomputable def corralref18_Home_give.T : Nat → List Item := stk Pr F.corralref18_Home_give []
def corralref18_Home_give.m (K : Value → Store → Prop) (hB hO : Nat) (σ : Store) : Prop :=
  ∃ t7 : Bool, cellAt σ hB (hO + 24) = some (.bool t7) ∧
  ∃ t12 : Int, cellAt σ hB (hO + 10) = some (.int .i64 t12) ∧
  StoreK σ hB (hO + 6) 1 [.int .i64 t12] fun σ_ =>
  StoreK σ_ hB (hO + 7) 1 [.slice none 0 0] fun σ_1 =>
  cond t7
  (∃ t23 : Int, cellAt σ_1 hB (hO + 10) = some (.int .i64 t23) ∧
    Spec Pr F.corralref18_Home_msg [.pointer (some ⟨hB, hO, none⟩), .int .i64 8, .int .i64 t23] σ_1 fun v σ_2 => ∃ t240 : Int, ∃ t241 : Int, ∃ t242 : Int, ∃ t243 : Int, ∃ t244 : Int, ∃ t245 : Int, ∃ t246 : Int, ∃ t247 : Int, ∃ t248 : Bool, ∃ t249 : Bool, ∃ t2410 : Bool, v = .agg #[.int .i64 t240, .int .i64 t241, .int .i64 t242, .int .i64 t243, .int .u32 t244, .int .u32 t245, .int .u32 t246, .int .u32 t247, .bool t248, .bool t249, .bool t2410] ∧
    New σ_2 ⟨33, [.int .i64 t240, .int .i64 t241, .int .i64 t242, .int .i64 t243, .int .u32 t244, .int .u32 t245, .int .u32 t246, .int .u32 t247, .bool t248, .bool t249, .bool t2410], (0, 0)⟩ fun t25B σ_3 =>
    K (.slice (some ⟨t25B, 0, none⟩) 1 1) σ_3)
  (∃ t30 : Bool, cellAt σ_1 hB (hO + 21) = some (.bool t30) ∧
    cond t30
    (∃ t360 : Int, ∃ t361 : Int, ∃ t362 : Int, ∃ t363 : Int, cellsAt σ_1 hB (hO + 17) 4 = some [.int .u32 t360, .int .u32 t361, .int .u32 t362, .int .u32 t363] ∧
      ∃ t41 : Bool, cellAt σ_1 hB (hO + 22) = some (.bool t41) ∧
      Spec Pr F.corralref18_Home_data [.pointer (some ⟨hB, hO, none⟩), .agg #[.int .u32 t360, .int .u32 t361, .int .u32 t362, .int .u32 t363], .bool t41, .bool true] σ_1 fun v1 σ_4 => ∃ t42A : Option Addr, ∃ t42N : Nat, ∃ t42C : Nat, v1 = .slice t42A t42N t42C ∧
      K (.slice t42A t42N t42C) σ_4)
    (∃ t470 : Int, ∃ t471 : Int, ∃ t472 : Int, ∃ t473 : Int, cellsAt σ_1 hB (hO + 2) 4 = some [.int .u32 t470, .int .u32 t471, .int .u32 t472, .int .u32 t473] ∧
      Spec Pr F.corralref18_Home_data [.pointer (some ⟨hB, hO, none⟩), .agg #[.int .u32 t470, .int .u32 t471, .int .u32 t472, .int .u32 t473], .bool false, .bool true] σ_1 fun v2 σ_5 => ∃ t48A : Option Addr, ∃ t48N : Nat, ∃ t48C : Nat, v2 = .slice t48A t48N t48C ∧
      K (.slice t48A t48N t48C) σ_5))
noncomputable def corralref18_Home_give.h (K : Value → Store → Prop) : Hand := hsel []
theorem corralref18_Home_give.m_eq (K : Value → Store → Prop) (hB hO : Nat) (σ : Store) : (segF Pr corralref18_Home_give.H F.corralref18_Home_give corralref18_Home_give.T (corralref18_Home_give.h K) K [.pointer (some ⟨hB, hO, none⟩)] σ) = corralref18_Home_give.m K hB hO σ := by kernel_rfl
theorem corralref18_Home_give.ok {K : Value → Store → Prop} {hB hO : Nat} {σ : Store} (h : corralref18_Home_give.m K hB hO σ) : Spec Pr F.corralref18_Home_give [.pointer (some ⟨hB, hO, none⟩)] σ K := by
  rw [← corralref18_Home_give.m_eq] at h
  exact segF_spec Pr_mixed (hsel_sound fun x hx => by
    cases hx) h

/-! ### corral/corralref.SameMsg -/
def corralref_SameMsg.H : Hints := { esc := [], cuts := [] }
noncomputable def corralref_SameMsg.T : Nat → List Item := stk Pr F.corralref_SameMsg []
def corralref_SameMsg.m (K : Value → Store → Prop) (a0 a1 a2 a3 a4 a5 a6 a7 : Int) (a8 a9 a10 : Bool) (b0 b1 b2 b3 b4 b5 b6 b7 : Int) (b8 b9 b10 : Bool) (σ : Store) : Prop :=
  Spec Pr F.corralref_SameLine [.agg #[.int .u32 a4, .int .u32 a5, .int .u32 a6, .int .u32 a7], .agg #[.int .u32 b4, .int .u32 b5, .int .u32 b6, .int .u32 b7]] σ fun v σ_ => ∃ t10 : Bool, v = .bool t10 ∧
  cond t10
  (cond (a0 == b0)
    (cond (a1 == b1)
      (cond (a2 == b2)
        (cond (a3 == b3)
          (cond (a8 == b8)
            (cond (a9 == b9)
              (K (.bool (a10 == b10)) σ_)
              (K (.bool false) σ_))
            (K (.bool false) σ_))
          (K (.bool false) σ_))
        (K (.bool false) σ_))
      (K (.bool false) σ_))
    (K (.bool false) σ_))
  (K (.bool false) σ_)
noncomputable def corralref_SameMsg.h (K : Value → Store → Prop) : Hand := hsel []
theorem corralref_SameMsg.m_eq (K : Value → Store → Prop) (a0 a1 a2 a3 a4 a5 a6 a7 : Int) (a8 a9 a10 : Bool) (b0 b1 b2 b3 b4 b5 b6 b7 : Int) (b8 b9 b10 : Bool) (σ : Store) : (segF Pr corralref_SameMsg.H F.corralref_SameMsg corralref_SameMsg.T (corralref_SameMsg.h K) K [.agg #[.int .i64 a0, .int .i64 a1, .int .i64 a2, .int .i64 a3, .int .u32 a4, .int .u32 a5, .int .u32 a6, .int .u32 a7, .bool a8, .bool a9, .bool a10], .agg #[.int .i64 b0, .int .i64 b1, .int .i64 b2, .int .i64 b3, .int .u32 b4, .int .u32 b5, .int .u32 b6, .int .u32 b7, .bool b8, .bool b9, .bool b10]] σ) = corralref_SameMsg.m K a0 a1 a2 a3 a4 a5 a6 a7 a8 a9 a10 b0 b1 b2 b3 b4 b5 b6 b7 b8 b9 b10 σ := by kernel_rfl
theorem corralref_SameMsg.ok {K : Value → Store → Prop} {a0 a1 a2 a3 a4 a5 a6 a7 : Int} {a8 a9 a10 : Bool} {b0 b1 b2 b3 b4 b5 b6 b7 : Int} {b8 b9 b10 : Bool} {σ : Store} (h : corralref_SameMsg.m K a0 a1 a2 a3 a4 a5 a6 a7 a8 a9 a10 b0 b1 b2 b3 b4 b5 b6 b7 b8 b9 b10 σ) : Spec Pr F.corralref_SameMsg [.agg #[.int .i64 a0, .int .i64 a1, .int .i64 a2, .int .i64 a3, .int .u32 a4, .int .u32 a5, .int .u32 a6, .int .u32 a7, .bool a8, .bool a9, .bool a10], .agg #[.int .i64 b0, .int .i64 b1, .int .i64 b2, .int .i64 b3, .int .u32 b4, .int .u32 b5, .int .u32 b6, .int .u32 b7, .bool b8, .bool b9, .bool b10]] σ K := by
  rw [← corralref_SameMsg.m_eq] at h
  exact segF_spec Pr_mixed (hsel_sound fun x hx => by
    cases hx) h

/-! ### corral/corrallaw18.first -/
def corrallaw18_first.H : Hints := { esc := [], cuts := [] }
noncomputable def corrallaw18_first.T : Nat → List Item := stk Pr F.corrallaw18_first []
def corrallaw18_first.m (K : Value → Store → Prop) (σ : Store) : Prop :=
  Spec Pr F.home_New [.int .i64 3, .int .i64 2, .agg #[.int .u32 7, .int .u32 0, .int .u32 0, .int .u32 0]] σ fun v σ_ => ∃ t6P : Option Addr, v = .pointer t6P ∧
  cond t6P.isNone
  (K (.bool false) σ_)
  (Spec Pr F.home_Home_Take [.pointer t6P, .agg #[.int .i64 1, .int .i64 3, .int .i64 0, .int .i64 (-1), .int .u32 0, .int .u32 0, .int .u32 0, .int .u32 0, .bool false, .bool false, .bool false]] σ_ fun v1 σ_1 => ∃ t11A : Option Addr, ∃ t11N : Nat, ∃ t11C : Nat, v1 = .slice t11A t11N t11C ∧
    Spec Pr F.home_Home_Owner [.pointer t6P] σ_1 fun v2 σ_2 => ∃ t13 : Int, v2 = .int .i64 t13 ∧
    Spec Pr F.home_Home_Take [.pointer t6P, .agg #[.int .i64 12, .int .i64 3, .int .i64 0, .int .i64 (-1), .int .u32 0, .int .u32 0, .int .u32 0, .int .u32 0, .bool false, .bool false, .bool false]] σ_2 fun v3 σ_3 => ∃ t16A : Option Addr, ∃ t16N : Nat, ∃ t16C : Nat, v3 = .slice t16A t16N t16C ∧
    Spec Pr F.home_Home_Take [.pointer t6P, .agg #[.int .i64 1, .int .i64 3, .int .i64 1, .int .i64 (-1), .int .u32 0, .int .u32 0, .int .u32 0, .int .u32 0, .bool false, .bool false, .bool false]] σ_3 fun v4 σ_4 => ∃ t19A : Option Addr, ∃ t19N : Nat, ∃ t19C : Nat, v4 = .slice t19A t19N t19C ∧
    cond (((t11N : Nat) : Int) == 1)
    (Req (decide (0 ≤ 0) && decide (0 < ((t11N : Nat) : Int))) (
        PtrNN t11A fun t25B t25O =>
        ∃ t27 : Int, cellAt σ_4 t25B t25O = some (.int .i64 t27) ∧
        cond (t27 == 7)
        (Req (decide (0 ≤ 0) && decide (0 < ((t11N : Nat) : Int))) (
            PtrNN t11A fun t32B t32O =>
            ∃ t34 : Bool, cellAt σ_4 t32B (t32O + 10) = some (.bool t34) ∧
            cond t34
            (cond (t13 == 0)
              (cond (((t19N : Nat) : Int) == 1)
                (Req (decide (0 ≤ 0) && decide (0 < ((t19N : Nat) : Int))) (
                    PtrNN t19A fun t47B t47O =>
                    ∃ t49 : Int, cellAt σ_4 t47B t47O = some (.int .i64 t49) ∧
                    cond (t49 == 5)
                    (Req (decide (0 ≤ 0) && decide (0 < ((t19N : Nat) : Int))) (
                        PtrNN t19A fun t54B t54O =>
                        ∃ t56 : Int, cellAt σ_4 t54B (t54O + 3) = some (.int .i64 t56) ∧
                        K (.bool (t56 == 0)) σ_4))
                    (K (.bool false) σ_4)))
                (K (.bool false) σ_4))
              (K (.bool false) σ_4))
            (K (.bool false) σ_4)))
        (K (.bool false) σ_4)))
    (K (.bool false) σ_4))
noncomputable def corrallaw18_first.h (K : Value → Store → Prop) : Hand := hsel []
theorem corrallaw18_first.m_eq (K : Value → Store → Prop) (σ : Store) : (segF Pr corrallaw18_first.H F.corrallaw18_first corrallaw18_first.T (corrallaw18_first.h K) K [] σ) = corrallaw18_first.m K σ := by kernel_rfl
theorem corrallaw18_first.ok {K : Value → Store → Prop} {σ : Store} (h : corrallaw18_first.m K σ) : Spec Pr F.corrallaw18_first [] σ K := by
  rw [← corrallaw18_first.m_eq] at h
  exact segF_spec Pr_mixed (hsel_sound fun x hx => by
    cases hx) h

/-! ### corral/corrallaw18.HomePlays -/
def corrallaw18_HomePlays.H : Hints := { esc := [], cuts := [(7, [0, 1, 3], [(6, 25)]), (12, [3, 10, 11, 12], []), (18, [3, 10, 11, 12, 13, 14], []), (23, [3, 10, 11, 12, 13, 15, 16, 17], []), (25, [3, 10, 11, 12], []), (27, [], [])] }
noncomputable def corrallaw18_HomePlays.T : Nat → List Item := stk Pr F.corrallaw18_HomePlays [(7, [1, 1, 1, 1, 1]), (12, [1, 1, 1, 1, 1, 1, 1, 1, 0, 1, 0, 0]), (18, [1, 1, 1, 1, 1, 1, 1, 1, 0, 1, 0, 0, 1, 0, 0, 1, 1, 1]), (23, [1, 1, 1, 1, 1, 1, 1, 1, 0, 1, 0, 0, 1, 0, 0, 1, 1, 1, 1, 1, 1, 1]), (25, [1, 1, 1, 1, 1, 1, 1, 1, 0, 1, 0, 0, 1, 0, 0, 1, 1, 1, 1, 1, 1, 1, 1]), (27, [1, 1, 1, 1, 1, 1, 1, 1, 1])]
abbrev corrallaw18_HomePlays.R25 : Type := Option Addr → Nat → Nat → Option Addr → Option Addr → Int → Store → Prop
abbrev corrallaw18_HomePlays.R23 : Type := Option Addr → Nat → Nat → Option Addr → Option Addr → Int → Option Addr → Int → Option Addr → Nat → Nat → Option Addr → Nat → Nat → Store → Prop
abbrev corrallaw18_HomePlays.R18 : Type := Option Addr → Nat → Nat → Option Addr → Option Addr → Int → Option Addr → Bool → Store → Prop
abbrev corrallaw18_HomePlays.R27 : Type := Store → Prop
abbrev corrallaw18_HomePlays.R12 : Type := Option Addr → Nat → Nat → Option Addr → Option Addr → Int → Store → Prop
abbrev corrallaw18_HomePlays.R7 : Type := Int → Int → Option Addr → Nat → Nat → Int → Int → Int → Int → Store → Prop
def corrallaw18_HomePlays.d25 (g : corrallaw18_HomePlays.R25) : List AV → List (List Value) → Store → Prop
  | [.v (.slice lA lN lC), .v (.pointer hP), .v (.pointer xP), .v (.int .i64 i)], [], σ => g lA lN lC hP xP i σ
  | _, _, _ => False
def corrallaw18_HomePlays.S25 (K : Value → Store → Prop) (lA : Option Addr) (lN lC : Nat) (hP xP : Option Addr) (i : Int) (σ : Store) : Prop := SndF Pr F.corrallaw18_HomePlays corrallaw18_HomePlays.H corrallaw18_HomePlays.T K 25 [.v (.slice lA lN lC), .v (.pointer hP), .v (.pointer xP), .v (.int .i64 i)] [] σ
def corrallaw18_HomePlays.j25 (K : Value → Store → Prop) (r12 : corrallaw18_HomePlays.R12) (lA : Option Addr) (lN lC : Nat) (hP xP : Option Addr) (i : Int) (σ : Store) : Prop :=
  PtrNN xP fun t96B t96O =>
  ∃ t98 : Bool, cellAt σ t96B (t96O + 8) = some (.bool t98) ∧
  Spec Pr F.home_Home_Busy [.pointer hP] σ fun v σ_ => ∃ t94 : Bool, v = .bool t94 ∧
  cellsAt σ_ t96B (t96O + 8) 1 = some [.bool t98] ∧
  cond (!(t94 == t98))
  (K (.bool false) σ_)
  (PtrNN xP fun t104B t104O =>
    ∃ t106 : Int, cellAt σ_ t104B (t104O + 6) = some (.int .i64 t106) ∧
    Spec Pr F.home_Home_Owner [.pointer hP] σ_ fun v1 σ_1 => ∃ t102 : Int, v1 = .int .i64 t102 ∧
    cellsAt σ_1 t104B (t104O + 6) 1 = some [.int .i64 t106] ∧
    cond (t102 != t106)
    (K (.bool false) σ_1)
    (PtrNN xP fun t113B t113O =>
      ∃ t115A : Option Addr, ∃ t115N : Nat, ∃ t115C : Nat, cellAt σ_1 t113B (t113O + 7) = some (.slice t115A t115N t115C) ∧
      Spec Pr F.home_Home_Sharers [.pointer hP] σ_1 fun v2 σ_2 => ∃ t111A : Option Addr, ∃ t111N : Nat, ∃ t111C : Nat, v2 = .slice t111A t111N t111C ∧
      cellsAt σ_2 t113B (t113O + 7) 1 = some [.slice t115A t115N t115C] ∧
      Spec Pr F.corralref_SameInts [.slice t111A t111N t111C, .slice t115A t115N t115C] σ_2 fun v3 σ_3 => ∃ t116 : Bool, v3 = .bool t116 ∧
      cond (!t116)
      (K (.bool false) σ_3)
      (PtrNN xP fun t123B t123O =>
        ∃ t1250 : Int, ∃ t1251 : Int, ∃ t1252 : Int, ∃ t1253 : Int, cellsAt σ_3 t123B (t123O + 2) 4 = some [.int .u32 t1250, .int .u32 t1251, .int .u32 t1252, .int .u32 t1253] ∧
        Spec Pr F.home_Home_Data [.pointer hP] σ_3 fun v4 σ_4 => ∃ t1210 : Int, ∃ t1211 : Int, ∃ t1212 : Int, ∃ t1213 : Int, v4 = .agg #[.int .u32 t1210, .int .u32 t1211, .int .u32 t1212, .int .u32 t1213] ∧
        cellsAt σ_4 t123B (t123O + 2) 4 = some [.int .u32 t1250, .int .u32 t1251, .int .u32 t1252, .int .u32 t1253] ∧
        Spec Pr F.corralref_SameLine [.agg #[.int .u32 t1210, .int .u32 t1211, .int .u32 t1212, .int .u32 t1213], .agg #[.int .u32 t1250, .int .u32 t1251, .int .u32 t1252, .int .u32 t1253]] σ_4 fun v5 σ_5 => ∃ t126 : Bool, v5 = .bool t126 ∧
        cond (!t126)
        (K (.bool false) σ_5)
        (Hop (corrallaw18_HomePlays.T 12) (corrallaw18_HomePlays.T 12) (r12 lA lN lC hP xP (IntKind.wrap .i64 (i + 1)) σ_5)))))
def corrallaw18_HomePlays.d23 (g : corrallaw18_HomePlays.R23) : List AV → List (List Value) → Store → Prop
  | [.v (.slice lA lN lC), .v (.pointer hP), .v (.pointer xP), .v (.int .i64 i), .v (.pointer cP), .v (.int .i64 owner), .v (.slice outA outN outC), .v (.slice wantA wantN wantC)], [], σ => g lA lN lC hP xP i cP owner outA outN outC wantA wantN wantC σ
  | _, _, _ => False
def corrallaw18_HomePlays.S23 (K : Value → Store → Prop) (lA : Option Addr) (lN lC : Nat) (hP xP : Option Addr) (i : Int) (cP : Option Addr) (owner : Int) (outA : Option Addr) (outN outC : Nat) (wantA : Option Addr) (wantN wantC : Nat) (σ : Store) : Prop := SndF Pr F.corrallaw18_HomePlays corrallaw18_HomePlays.H corrallaw18_HomePlays.T K 23 [.v (.slice lA lN lC), .v (.pointer hP), .v (.pointer xP), .v (.int .i64 i), .v (.pointer cP), .v (.int .i64 owner), .v (.slice outA outN outC), .v (.slice wantA wantN wantC)] [] σ
def corrallaw18_HomePlays.j23 (K : Value → Store → Prop) (r12 : corrallaw18_HomePlays.R12) (lA : Option Addr) (lN lC : Nat) (hP xP : Option Addr) (i : Int) (cP : Option Addr) (owner : Int) (outA : Option Addr) (outN outC : Nat) (wantA : Option Addr) (wantN wantC : Nat) (σ : Store) : Prop :=
  Spec Pr F.corralref_SameMsgs [.slice outA outN outC, .slice wantA wantN wantC] σ fun v σ_ => ∃ t85 : Bool, v = .bool t85 ∧
  cond (!t85)
  (K (.bool false) σ_)
  (Spec Pr F.home_Home_Owner [.pointer cP] σ_ fun v1 σ_1 => ∃ t89 : Int, v1 = .int .i64 t89 ∧
    cond (t89 != owner)
    (K (.bool false) σ_1)
    (Hop (corrallaw18_HomePlays.T 25) (corrallaw18_HomePlays.T 25) (corrallaw18_HomePlays.j25 K r12 lA lN lC hP xP i σ_1)))
def corrallaw18_HomePlays.d18 (g : corrallaw18_HomePlays.R18) : List AV → List (List Value) → Store → Prop
  | [.v (.slice lA lN lC), .v (.pointer hP), .v (.pointer xP), .v (.int .i64 i), .v (.pointer cP), .v (.bool is)], [], σ => g lA lN lC hP xP i cP is σ
  | _, _, _ => False
def corrallaw18_HomePlays.S18 (K : Value → Store → Prop) (lA : Option Addr) (lN lC : Nat) (hP xP : Option Addr) (i : Int) (cP : Option Addr) (is : Bool) (σ : Store) : Prop := SndF Pr F.corrallaw18_HomePlays corrallaw18_HomePlays.H corrallaw18_HomePlays.T K 18 [.v (.slice lA lN lC), .v (.pointer hP), .v (.pointer xP), .v (.int .i64 i), .v (.pointer cP), .v (.bool is)] [] σ
def corrallaw18_HomePlays.j18 (K : Value → Store → Prop) (r12 : corrallaw18_HomePlays.R12) (lA : Option Addr) (lN lC : Nat) (hP xP : Option Addr) (i : Int) (cP : Option Addr) (is : Bool) (σ : Store) : Prop :=
  Spec Pr F.home_Home_Owner [.pointer hP] σ fun v σ_ => ∃ t69 : Int, v = .int .i64 t69 ∧
  Req (decide (0 ≤ i) && decide (i < ((lN : Nat) : Int))) (
    PtrNN lA fun t73B t73O =>
    ∃ t740 : Int, ∃ t741 : Int, ∃ t742 : Int, ∃ t743 : Int, ∃ t744 : Int, ∃ t745 : Int, ∃ t746 : Int, ∃ t747 : Int, ∃ t748 : Bool, ∃ t749 : Bool, ∃ t7410 : Bool, cellsAt σ_ t73B (t73O + i.toNat * 11) 11 = some [.int .i64 t740, .int .i64 t741, .int .i64 t742, .int .i64 t743, .int .u32 t744, .int .u32 t745, .int .u32 t746, .int .u32 t747, .bool t748, .bool t749, .bool t7410] ∧
    Spec Pr F.home_Home_Take [.pointer hP, .agg #[.int .i64 t740, .int .i64 t741, .int .i64 t742, .int .i64 t743, .int .u32 t744, .int .u32 t745, .int .u32 t746, .int .u32 t747, .bool t748, .bool t749, .bool t7410]] σ_ fun v1 σ_1 => ∃ t75A : Option Addr, ∃ t75N : Nat, ∃ t75C : Nat, v1 = .slice t75A t75N t75C ∧
    cond is
    (Req (decide (0 ≤ i) && decide (i < ((lN : Nat) : Int))) (
        PtrNN lA fun t80B t80O =>
        ∃ t810 : Int, ∃ t811 : Int, ∃ t812 : Int, ∃ t813 : Int, ∃ t814 : Int, ∃ t815 : Int, ∃ t816 : Int, ∃ t817 : Int, ∃ t818 : Bool, ∃ t819 : Bool, ∃ t8110 : Bool, cellsAt σ_1 t80B (t80O + i.toNat * 11) 11 = some [.int .i64 t810, .int .i64 t811, .int .i64 t812, .int .i64 t813, .int .u32 t814, .int .u32 t815, .int .u32 t816, .int .u32 t817, .bool t818, .bool t819, .bool t8110] ∧
        Spec Pr F.corralref18_Home_Take [.pointer xP, .agg #[.int .i64 t810, .int .i64 t811, .int .i64 t812, .int .i64 t813, .int .u32 t814, .int .u32 t815, .int .u32 t816, .int .u32 t817, .bool t818, .bool t819, .bool t8110]] σ_1 fun v2 σ_2 => ∃ t82A : Option Addr, ∃ t82N : Nat, ∃ t82C : Nat, v2 = .slice t82A t82N t82C ∧
        Hop (corrallaw18_HomePlays.T 23) (corrallaw18_HomePlays.T 23) (corrallaw18_HomePlays.j23 K r12 lA lN lC hP xP i cP t69 t75A t75N t75C t82A t82N t82C σ_2)))
    (Hop (corrallaw18_HomePlays.T 23) (corrallaw18_HomePlays.T 23) (corrallaw18_HomePlays.j23 K r12 lA lN lC hP xP i cP t69 t75A t75N t75C none 0 0 σ_1)))
def corrallaw18_HomePlays.d27 (g : corrallaw18_HomePlays.R27) : List AV → List (List Value) → Store → Prop
  | [], [], σ => g σ
  | _, _, _ => False
def corrallaw18_HomePlays.S27 (K : Value → Store → Prop) (σ : Store) : Prop := SndF Pr F.corrallaw18_HomePlays corrallaw18_HomePlays.H corrallaw18_HomePlays.T K 27 [] [] σ
def corrallaw18_HomePlays.j27 (K : Value → Store → Prop) (σ : Store) : Prop :=
  K (.bool true) σ
def corrallaw18_HomePlays.d12 (g : corrallaw18_HomePlays.R12) : List AV → List (List Value) → Store → Prop
  | [.v (.slice lA lN lC), .v (.pointer hP), .v (.pointer xP), .v (.int .i64 i)], [], σ => g lA lN lC hP xP i σ
  | _, _, _ => False
def corrallaw18_HomePlays.S12 (K : Value → Store → Prop) (lA : Option Addr) (lN lC : Nat) (hP xP : Option Addr) (i : Int) (σ : Store) : Prop := SndF Pr F.corrallaw18_HomePlays corrallaw18_HomePlays.H corrallaw18_HomePlays.T K 12 [.v (.slice lA lN lC), .v (.pointer hP), .v (.pointer xP), .v (.int .i64 i)] [] σ
def corrallaw18_HomePlays.b12 (K : Value → Store → Prop) (r12 : corrallaw18_HomePlays.R12) (lA : Option Addr) (lN lC : Nat) (hP xP : Option Addr) (i : Int) (σ : Store) : Prop :=
  cond (decide (i < ((lN : Nat) : Int)))
  (Spec Pr F.home_Home_Clone [.pointer hP] σ fun v σ_ => ∃ t49P : Option Addr, v = .pointer t49P ∧
    Req (decide (0 ≤ i) && decide (i < ((lN : Nat) : Int))) (
      PtrNN lA fun t53B t53O =>
      ∃ t540 : Int, ∃ t541 : Int, ∃ t542 : Int, ∃ t543 : Int, ∃ t544 : Int, ∃ t545 : Int, ∃ t546 : Int, ∃ t547 : Int, ∃ t548 : Bool, ∃ t549 : Bool, ∃ t5410 : Bool, cellsAt σ_ t53B (t53O + i.toNat * 11) 11 = some [.int .i64 t540, .int .i64 t541, .int .i64 t542, .int .i64 t543, .int .u32 t544, .int .u32 t545, .int .u32 t546, .int .u32 t547, .bool t548, .bool t549, .bool t5410] ∧
      Spec Pr F.home_Home_Takes [.pointer hP, .agg #[.int .i64 t540, .int .i64 t541, .int .i64 t542, .int .i64 t543, .int .u32 t544, .int .u32 t545, .int .u32 t546, .int .u32 t547, .bool t548, .bool t549, .bool t5410]] σ_ fun v1 σ_1 => ∃ t55 : Bool, v1 = .bool t55 ∧
      Req (decide (0 ≤ i) && decide (i < ((lN : Nat) : Int))) (
        PtrNN lA fun t60B t60O =>
        ∃ t610 : Int, ∃ t611 : Int, ∃ t612 : Int, ∃ t613 : Int, ∃ t614 : Int, ∃ t615 : Int, ∃ t616 : Int, ∃ t617 : Int, ∃ t618 : Bool, ∃ t619 : Bool, ∃ t6110 : Bool, cellsAt σ_1 t60B (t60O + i.toNat * 11) 11 = some [.int .i64 t610, .int .i64 t611, .int .i64 t612, .int .i64 t613, .int .u32 t614, .int .u32 t615, .int .u32 t616, .int .u32 t617, .bool t618, .bool t619, .bool t6110] ∧
        Spec Pr F.corralref18_Home_Takes [.pointer xP, .agg #[.int .i64 t610, .int .i64 t611, .int .i64 t612, .int .i64 t613, .int .u32 t614, .int .u32 t615, .int .u32 t616, .int .u32 t617, .bool t618, .bool t619, .bool t6110]] σ_1 fun v2 σ_2 => ∃ t62 : Bool, v2 = .bool t62 ∧
        cond (!(t55 == t62))
        (K (.bool false) σ_2)
        (cond t49P.isNone
          (K (.bool false) σ_2)
          (Hop (corrallaw18_HomePlays.T 18) (corrallaw18_HomePlays.T 18) (corrallaw18_HomePlays.j18 K r12 lA lN lC hP xP i t49P t55 σ_2))))))
  (Hop (corrallaw18_HomePlays.T 27) (corrallaw18_HomePlays.T 27) (corrallaw18_HomePlays.j27 K σ))
def corrallaw18_HomePlays.l12 (K : Value → Store → Prop) : Nat → corrallaw18_HomePlays.R12
  | 0, _, _, _, _, _, _, _ => False
  | n + 1, lA, lN, lC, hP, xP, i, σ => corrallaw18_HomePlays.b12 K (corrallaw18_HomePlays.l12 K n) lA lN lC hP xP i σ
def corrallaw18_HomePlays.d7 (g : corrallaw18_HomePlays.R7) : List AV → List (List Value) → Store → Prop
  | [.v (.int .i64 line), .v (.int .i64 harts), .v (.slice lA lN lC)], [[.int .u32 data0, .int .u32 data1, .int .u32 data2, .int .u32 data3]], σ => g line harts lA lN lC data0 data1 data2 data3 σ
  | _, _, _ => False
def corrallaw18_HomePlays.S7 (K : Value → Store → Prop) (line harts : Int) (lA : Option Addr) (lN lC : Nat) (data0 data1 data2 data3 : Int) (σ : Store) : Prop := SndF Pr F.corrallaw18_HomePlays corrallaw18_HomePlays.H corrallaw18_HomePlays.T K 7 [.v (.int .i64 line), .v (.int .i64 harts), .v (.slice lA lN lC)] [[.int .u32 data0, .int .u32 data1, .int .u32 data2, .int .u32 data3]] σ
def corrallaw18_HomePlays.j7 (K : Value → Store → Prop) (line harts : Int) (lA : Option Addr) (lN lC : Nat) (data0 data1 data2 data3 : Int) (σ : Store) : Prop :=
  Spec Pr F.home_New [.int .i64 line, .int .i64 harts, .agg #[.int .u32 data0, .int .u32 data1, .int .u32 data2, .int .u32 data3]] σ fun v σ_ => ∃ t35P : Option Addr, v = .pointer t35P ∧
  Spec Pr F.corralref18_NewHome [.int .i64 line, .int .i64 harts, .agg #[.int .u32 data0, .int .u32 data1, .int .u32 data2, .int .u32 data3]] σ_ fun v1 σ_1 => ∃ t39P : Option Addr, v1 = .pointer t39P ∧
  cond t35P.isNone
  (K (.bool false) σ_1)
  (Hop (corrallaw18_HomePlays.T 12) (corrallaw18_HomePlays.T 12) (∃ n : Nat, corrallaw18_HomePlays.l12 K n lA lN lC t35P t39P 0 σ_1))
def corrallaw18_HomePlays.m (K : Value → Store → Prop) (line harts data0 data1 data2 data3 : Int) (lA : Option Addr) (lN lC : Nat) (σ : Store) : Prop :=
  Spec Pr F.corrallaw18_first [] σ fun v σ_ => ∃ t18 : Bool, v = .bool t18 ∧
  cond (!t18)
  (K (.bool false) σ_)
  (Spec Pr F.corralworld_Number [.int .i64 harts, .int .i64 4] σ_ fun v1 σ_1 => ∃ t22 : Int, v1 = .int .i64 t22 ∧
    cond (decide (((lN : Nat) : Int) > 80))
    (K (.bool t18) σ_1)
    (cond (!t18)
      (K (.bool t18) σ_1)
      (Hop (corrallaw18_HomePlays.T 7) (corrallaw18_HomePlays.T 7) (corrallaw18_HomePlays.j7 K line (IntKind.wrap .i64 (t22 + 1)) lA lN lC data0 data1 data2 data3 σ_1))))
theorem corrallaw18_HomePlays.d25_ok {K : Value → Store → Prop} {g : corrallaw18_HomePlays.R25} (hg : ∀ lA lN lC hP xP i σ, g lA lN lC hP xP i σ → corrallaw18_HomePlays.S25 K lA lN lC hP xP i σ) (vs : List AV) (bs : List (List Value)) (σ : Store) (h : corrallaw18_HomePlays.d25 g vs bs σ) : SndF Pr F.corrallaw18_HomePlays corrallaw18_HomePlays.H corrallaw18_HomePlays.T K 25 vs bs σ := by
  unfold corrallaw18_HomePlays.d25 at h
  split at h
  · exact hg _ _ _ _ _ _ _ h
  · exact h.elim
theorem corrallaw18_HomePlays.d23_ok {K : Value → Store → Prop} {g : corrallaw18_HomePlays.R23} (hg : ∀ lA lN lC hP xP i cP owner outA outN outC wantA wantN wantC σ, g lA lN lC hP xP i cP owner outA outN outC wantA wantN wantC σ → corrallaw18_HomePlays.S23 K lA lN lC hP xP i cP owner outA outN outC wantA wantN wantC σ) (vs : List AV) (bs : List (List Value)) (σ : Store) (h : corrallaw18_HomePlays.d23 g vs bs σ) : SndF Pr F.corrallaw18_HomePlays corrallaw18_HomePlays.H corrallaw18_HomePlays.T K 23 vs bs σ := by
  unfold corrallaw18_HomePlays.d23 at h
  split at h
  · exact hg _ _ _ _ _ _ _ _ _ _ _ _ _ _ _ h
  · exact h.elim
theorem corrallaw18_HomePlays.d18_ok {K : Value → Store → Prop} {g : corrallaw18_HomePlays.R18} (hg : ∀ lA lN lC hP xP i cP is σ, g lA lN lC hP xP i cP is σ → corrallaw18_HomePlays.S18 K lA lN lC hP xP i cP is σ) (vs : List AV) (bs : List (List Value)) (σ : Store) (h : corrallaw18_HomePlays.d18 g vs bs σ) : SndF Pr F.corrallaw18_HomePlays corrallaw18_HomePlays.H corrallaw18_HomePlays.T K 18 vs bs σ := by
  unfold corrallaw18_HomePlays.d18 at h
  split at h
  · exact hg _ _ _ _ _ _ _ _ _ h
  · exact h.elim
theorem corrallaw18_HomePlays.d27_ok {K : Value → Store → Prop} {g : corrallaw18_HomePlays.R27} (hg : ∀ σ, g σ → corrallaw18_HomePlays.S27 K σ) (vs : List AV) (bs : List (List Value)) (σ : Store) (h : corrallaw18_HomePlays.d27 g vs bs σ) : SndF Pr F.corrallaw18_HomePlays corrallaw18_HomePlays.H corrallaw18_HomePlays.T K 27 vs bs σ := by
  unfold corrallaw18_HomePlays.d27 at h
  split at h
  · exact hg _ h
  · exact h.elim
theorem corrallaw18_HomePlays.d12_ok {K : Value → Store → Prop} {g : corrallaw18_HomePlays.R12} (hg : ∀ lA lN lC hP xP i σ, g lA lN lC hP xP i σ → corrallaw18_HomePlays.S12 K lA lN lC hP xP i σ) (vs : List AV) (bs : List (List Value)) (σ : Store) (h : corrallaw18_HomePlays.d12 g vs bs σ) : SndF Pr F.corrallaw18_HomePlays corrallaw18_HomePlays.H corrallaw18_HomePlays.T K 12 vs bs σ := by
  unfold corrallaw18_HomePlays.d12 at h
  split at h
  · exact hg _ _ _ _ _ _ _ h
  · exact h.elim
theorem corrallaw18_HomePlays.d7_ok {K : Value → Store → Prop} {g : corrallaw18_HomePlays.R7} (hg : ∀ line harts lA lN lC data0 data1 data2 data3 σ, g line harts lA lN lC data0 data1 data2 data3 σ → corrallaw18_HomePlays.S7 K line harts lA lN lC data0 data1 data2 data3 σ) (vs : List AV) (bs : List (List Value)) (σ : Store) (h : corrallaw18_HomePlays.d7 g vs bs σ) : SndF Pr F.corrallaw18_HomePlays corrallaw18_HomePlays.H corrallaw18_HomePlays.T K 7 vs bs σ := by
  unfold corrallaw18_HomePlays.d7 at h
  split at h
  · exact hg _ _ _ _ _ _ _ _ _ _ h
  · exact h.elim
noncomputable def corrallaw18_HomePlays.h25 (K : Value → Store → Prop) (r12 : corrallaw18_HomePlays.R12) : Hand := hsel [(12, corrallaw18_HomePlays.d12 r12)]
theorem corrallaw18_HomePlays.j25_eq (K : Value → Store → Prop) (r12 : corrallaw18_HomePlays.R12) (lA : Option Addr) (lN lC : Nat) (hP xP : Option Addr) (i : Int) (σ : Store) : (seg Pr corrallaw18_HomePlays.H F.corrallaw18_HomePlays corrallaw18_HomePlays.T (corrallaw18_HomePlays.h25 K r12) K (corrallaw18_HomePlays.T 25) (Ev.cutE corrallaw18_HomePlays.H 25 [.v (.slice lA lN lC), .v (.pointer hP), .v (.pointer xP), .v (.int .i64 i)] []) σ) = corrallaw18_HomePlays.j25 K r12 lA lN lC hP xP i σ := by kernel_rfl
theorem corrallaw18_HomePlays.j25_ok (K : Value → Store → Prop) (r12 : corrallaw18_HomePlays.R12) (h12 : ∀ lA lN lC hP xP i σ, r12 lA lN lC hP xP i σ → corrallaw18_HomePlays.S12 K lA lN lC hP xP i σ) (lA : Option Addr) (lN lC : Nat) (hP xP : Option Addr) (i : Int) (σ : Store) (h : corrallaw18_HomePlays.j25 K r12 lA lN lC hP xP i σ) : corrallaw18_HomePlays.S25 K lA lN lC hP xP i σ := by
  rw [← corrallaw18_HomePlays.j25_eq] at h
  exact seg_snd Pr_mixed (hsel_sound fun x hx => by
    simp only [List.mem_cons, List.not_mem_nil, or_false] at hx
    subst hx
    exact corrallaw18_HomePlays.d12_ok h12) h
noncomputable def corrallaw18_HomePlays.h23 (K : Value → Store → Prop) (r12 : corrallaw18_HomePlays.R12) : Hand := hsel [(25, corrallaw18_HomePlays.d25 (corrallaw18_HomePlays.j25 K r12)), (12, corrallaw18_HomePlays.d12 r12)]
theorem corrallaw18_HomePlays.j23_eq (K : Value → Store → Prop) (r12 : corrallaw18_HomePlays.R12) (lA : Option Addr) (lN lC : Nat) (hP xP : Option Addr) (i : Int) (cP : Option Addr) (owner : Int) (outA : Option Addr) (outN outC : Nat) (wantA : Option Addr) (wantN wantC : Nat) (σ : Store) : (seg Pr corrallaw18_HomePlays.H F.corrallaw18_HomePlays corrallaw18_HomePlays.T (corrallaw18_HomePlays.h23 K r12) K (corrallaw18_HomePlays.T 23) (Ev.cutE corrallaw18_HomePlays.H 23 [.v (.slice lA lN lC), .v (.pointer hP), .v (.pointer xP), .v (.int .i64 i), .v (.pointer cP), .v (.int .i64 owner), .v (.slice outA outN outC), .v (.slice wantA wantN wantC)] []) σ) = corrallaw18_HomePlays.j23 K r12 lA lN lC hP xP i cP owner outA outN outC wantA wantN wantC σ := by kernel_rfl
theorem corrallaw18_HomePlays.j23_ok (K : Value → Store → Prop) (r12 : corrallaw18_HomePlays.R12) (h12 : ∀ lA lN lC hP xP i σ, r12 lA lN lC hP xP i σ → corrallaw18_HomePlays.S12 K lA lN lC hP xP i σ) (lA : Option Addr) (lN lC : Nat) (hP xP : Option Addr) (i : Int) (cP : Option Addr) (owner : Int) (outA : Option Addr) (outN outC : Nat) (wantA : Option Addr) (wantN wantC : Nat) (σ : Store) (h : corrallaw18_HomePlays.j23 K r12 lA lN lC hP xP i cP owner outA outN outC wantA wantN wantC σ) : corrallaw18_HomePlays.S23 K lA lN lC hP xP i cP owner outA outN outC wantA wantN wantC σ := by
  rw [← corrallaw18_HomePlays.j23_eq] at h
  exact seg_snd Pr_mixed (hsel_sound fun x hx => by
    simp only [List.mem_cons, List.not_mem_nil, or_false] at hx
    rcases hx with rfl | rfl
    · exact corrallaw18_HomePlays.d25_ok fun _ _ _ _ _ _ _ h => corrallaw18_HomePlays.j25_ok K r12 h12 _ _ _ _ _ _ _ h
    · exact corrallaw18_HomePlays.d12_ok h12) h
noncomputable def corrallaw18_HomePlays.h18 (K : Value → Store → Prop) (r12 : corrallaw18_HomePlays.R12) : Hand := hsel [(23, corrallaw18_HomePlays.d23 (corrallaw18_HomePlays.j23 K r12)), (12, corrallaw18_HomePlays.d12 r12)]
theorem corrallaw18_HomePlays.j18_eq (K : Value → Store → Prop) (r12 : corrallaw18_HomePlays.R12) (lA : Option Addr) (lN lC : Nat) (hP xP : Option Addr) (i : Int) (cP : Option Addr) (is : Bool) (σ : Store) : (seg Pr corrallaw18_HomePlays.H F.corrallaw18_HomePlays corrallaw18_HomePlays.T (corrallaw18_HomePlays.h18 K r12) K (corrallaw18_HomePlays.T 18) (Ev.cutE corrallaw18_HomePlays.H 18 [.v (.slice lA lN lC), .v (.pointer hP), .v (.pointer xP), .v (.int .i64 i), .v (.pointer cP), .v (.bool is)] []) σ) = corrallaw18_HomePlays.j18 K r12 lA lN lC hP xP i cP is σ := by kernel_rfl
theorem corrallaw18_HomePlays.j18_ok (K : Value → Store → Prop) (r12 : corrallaw18_HomePlays.R12) (h12 : ∀ lA lN lC hP xP i σ, r12 lA lN lC hP xP i σ → corrallaw18_HomePlays.S12 K lA lN lC hP xP i σ) (lA : Option Addr) (lN lC : Nat) (hP xP : Option Addr) (i : Int) (cP : Option Addr) (is : Bool) (σ : Store) (h : corrallaw18_HomePlays.j18 K r12 lA lN lC hP xP i cP is σ) : corrallaw18_HomePlays.S18 K lA lN lC hP xP i cP is σ := by
  rw [← corrallaw18_HomePlays.j18_eq] at h
  exact seg_snd Pr_mixed (hsel_sound fun x hx => by
    simp only [List.mem_cons, List.not_mem_nil, or_false] at hx
    rcases hx with rfl | rfl
    · exact corrallaw18_HomePlays.d23_ok fun _ _ _ _ _ _ _ _ _ _ _ _ _ _ _ h => corrallaw18_HomePlays.j23_ok K r12 h12 _ _ _ _ _ _ _ _ _ _ _ _ _ _ _ h
    · exact corrallaw18_HomePlays.d12_ok h12) h
noncomputable def corrallaw18_HomePlays.h27 (K : Value → Store → Prop) : Hand := hsel []
theorem corrallaw18_HomePlays.j27_eq (K : Value → Store → Prop) (σ : Store) : (seg Pr corrallaw18_HomePlays.H F.corrallaw18_HomePlays corrallaw18_HomePlays.T (corrallaw18_HomePlays.h27 K ) K (corrallaw18_HomePlays.T 27) (Ev.cutE corrallaw18_HomePlays.H 27 [] []) σ) = corrallaw18_HomePlays.j27 K σ := by kernel_rfl
theorem corrallaw18_HomePlays.j27_ok (K : Value → Store → Prop) (σ : Store) (h : corrallaw18_HomePlays.j27 K σ) : corrallaw18_HomePlays.S27 K σ := by
  rw [← corrallaw18_HomePlays.j27_eq] at h
  exact seg_snd Pr_mixed (hsel_sound fun x hx => by
    cases hx) h
noncomputable def corrallaw18_HomePlays.h12 (K : Value → Store → Prop) (r12 : corrallaw18_HomePlays.R12) : Hand := hsel [(18, corrallaw18_HomePlays.d18 (corrallaw18_HomePlays.j18 K r12)), (27, corrallaw18_HomePlays.d27 (corrallaw18_HomePlays.j27 K )), (12, corrallaw18_HomePlays.d12 r12)]
theorem corrallaw18_HomePlays.b12_eq (K : Value → Store → Prop) (r12 : corrallaw18_HomePlays.R12) (lA : Option Addr) (lN lC : Nat) (hP xP : Option Addr) (i : Int) (σ : Store) : (seg Pr corrallaw18_HomePlays.H F.corrallaw18_HomePlays corrallaw18_HomePlays.T (corrallaw18_HomePlays.h12 K r12) K (corrallaw18_HomePlays.T 12) (Ev.cutE corrallaw18_HomePlays.H 12 [.v (.slice lA lN lC), .v (.pointer hP), .v (.pointer xP), .v (.int .i64 i)] []) σ) = corrallaw18_HomePlays.b12 K r12 lA lN lC hP xP i σ := by kernel_rfl
theorem corrallaw18_HomePlays.b12_ok (K : Value → Store → Prop) (r12 : corrallaw18_HomePlays.R12) (h12 : ∀ lA lN lC hP xP i σ, r12 lA lN lC hP xP i σ → corrallaw18_HomePlays.S12 K lA lN lC hP xP i σ) (lA : Option Addr) (lN lC : Nat) (hP xP : Option Addr) (i : Int) (σ : Store) (h : corrallaw18_HomePlays.b12 K r12 lA lN lC hP xP i σ) : corrallaw18_HomePlays.S12 K lA lN lC hP xP i σ := by
  rw [← corrallaw18_HomePlays.b12_eq] at h
  exact seg_snd Pr_mixed (hsel_sound fun x hx => by
    simp only [List.mem_cons, List.not_mem_nil, or_false] at hx
    rcases hx with rfl | rfl | rfl
    · exact corrallaw18_HomePlays.d18_ok fun _ _ _ _ _ _ _ _ _ h => corrallaw18_HomePlays.j18_ok K r12 h12 _ _ _ _ _ _ _ _ _ h
    · exact corrallaw18_HomePlays.d27_ok fun _ h => corrallaw18_HomePlays.j27_ok K _ h
    · exact corrallaw18_HomePlays.d12_ok h12) h
theorem corrallaw18_HomePlays.l12_ok (K : Value → Store → Prop) : ∀ (n : Nat) (lA : Option Addr) (lN lC : Nat) (hP xP : Option Addr) (i : Int) (σ : Store), corrallaw18_HomePlays.l12 K n lA lN lC hP xP i σ → corrallaw18_HomePlays.S12 K lA lN lC hP xP i σ
  | 0, _, _, _, _, _, _, _, h => h.elim
  | n + 1, _, _, _, _, _, _, _, h => corrallaw18_HomePlays.b12_ok K (corrallaw18_HomePlays.l12 K n) (corrallaw18_HomePlays.l12_ok K n) _ _ _ _ _ _ _ h
noncomputable def corrallaw18_HomePlays.h7 (K : Value → Store → Prop) : Hand := hsel [(12, corrallaw18_HomePlays.d12 fun lA lN lC hP xP i σ => ∃ n : Nat, corrallaw18_HomePlays.l12 K n lA lN lC hP xP i σ)]
theorem corrallaw18_HomePlays.j7_eq (K : Value → Store → Prop) (line harts : Int) (lA : Option Addr) (lN lC : Nat) (data0 data1 data2 data3 : Int) (σ : Store) : (seg Pr corrallaw18_HomePlays.H F.corrallaw18_HomePlays corrallaw18_HomePlays.T (corrallaw18_HomePlays.h7 K ) K (corrallaw18_HomePlays.T 7) (Ev.cutE corrallaw18_HomePlays.H 7 [.v (.int .i64 line), .v (.int .i64 harts), .v (.slice lA lN lC)] [[.int .u32 data0, .int .u32 data1, .int .u32 data2, .int .u32 data3]]) σ) = corrallaw18_HomePlays.j7 K line harts lA lN lC data0 data1 data2 data3 σ := by kernel_rfl
theorem corrallaw18_HomePlays.j7_ok (K : Value → Store → Prop) (line harts : Int) (lA : Option Addr) (lN lC : Nat) (data0 data1 data2 data3 : Int) (σ : Store) (h : corrallaw18_HomePlays.j7 K line harts lA lN lC data0 data1 data2 data3 σ) : corrallaw18_HomePlays.S7 K line harts lA lN lC data0 data1 data2 data3 σ := by
  rw [← corrallaw18_HomePlays.j7_eq] at h
  exact seg_snd Pr_mixed (hsel_sound fun x hx => by
    simp only [List.mem_cons, List.not_mem_nil, or_false] at hx
    subst hx
    exact corrallaw18_HomePlays.d12_ok fun _ _ _ _ _ _ _ ⟨n, h⟩ => corrallaw18_HomePlays.l12_ok K n _ _ _ _ _ _ _ h) h
noncomputable def corrallaw18_HomePlays.h (K : Value → Store → Prop) : Hand := hsel [(7, corrallaw18_HomePlays.d7 (corrallaw18_HomePlays.j7 K ))]
theorem corrallaw18_HomePlays.m_eq (K : Value → Store → Prop) (line harts data0 data1 data2 data3 : Int) (lA : Option Addr) (lN lC : Nat) (σ : Store) : (segF Pr corrallaw18_HomePlays.H F.corrallaw18_HomePlays corrallaw18_HomePlays.T (corrallaw18_HomePlays.h K) K [.int .i64 line, .int .i64 harts, .agg #[.int .u32 data0, .int .u32 data1, .int .u32 data2, .int .u32 data3], .slice lA lN lC] σ) = corrallaw18_HomePlays.m K line harts data0 data1 data2 data3 lA lN lC σ := by kernel_rfl
theorem corrallaw18_HomePlays.ok {K : Value → Store → Prop} {line harts data0 data1 data2 data3 : Int} {lA : Option Addr} {lN lC : Nat} {σ : Store} (h : corrallaw18_HomePlays.m K line harts data0 data1 data2 data3 lA lN lC σ) : Spec Pr F.corrallaw18_HomePlays [.int .i64 line, .int .i64 harts, .agg #[.int .u32 data0, .int .u32 data1, .int .u32 data2, .int .u32 data3], .slice lA lN lC] σ K := by
  rw [← corrallaw18_HomePlays.m_eq] at h
  exact segF_spec Pr_mixed (hsel_sound fun x hx => by
    simp only [List.mem_cons, List.not_mem_nil, or_false] at hx
    subst hx
    exact corrallaw18_HomePlays.d7_ok fun _ _ _ _ _ _ _ _ _ _ h => corrallaw18_HomePlays.j7_ok K _ _ _ _ _ _ _ _ _ _ h) h

end Go.Ev
