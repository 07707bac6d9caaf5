import Derived.Test.YtohkplmfihhhnaaDoorN
set_option linter.unusedVariables false
set_option maxRecDepth 100000
namespace Go.Ev
open Go
/-! ### slices.IndexFunc[[]corral/cache.Entry,corral/cache.Entry] -/
def slices_IndexFunc.H : Hints := { esc := [], cuts := [(2, [0, 1, 7, 8], []), (7, [], [])] }
noncomputable def slices_IndexFunc.T : Nat → List Item := stk Pr F.slices_IndexFunc [(2, [1, 0, 1, 0, 0]), (7, [1, 1])]
abbrev slices_IndexFunc.R7 : Type := Store → Prop
abbrev slices_IndexFunc.R2 : Type := Option Addr → Nat → Nat → Nat → Nat → Int → Int → Store → Prop
def slices_IndexFunc.d7 (g : slices_IndexFunc.R7) : List AV → List (List Value) → Store → Prop
  | [], [], σ => g σ
  | _, _, _ => False
def slices_IndexFunc.S7 (K : Value → Store → Prop) (σ : Store) : Prop := SndF Pr F.slices_IndexFunc slices_IndexFunc.H slices_IndexFunc.T K 7 [] [] σ
def slices_IndexFunc.j7 (K : Value → Store → Prop) (σ : Store) : Prop :=
  K (.int .i64 (-1)) σ
def slices_IndexFunc.d2 (g : slices_IndexFunc.R2) : List AV → List (List Value) → Store → Prop
  | [.v (.slice sA sN sC), .v (.func (.func 79) ⟨[]⟩ ⟨[.pointer (some ⟨fB, fO, none⟩)]⟩), .v (.int .i64 t7), .v (.int .i64 t8)], [], σ => g sA sN sC fB fO t7 t8 σ
  | _, _, _ => False
def slices_IndexFunc.S2 (K : Value → Store → Prop) (sA : Option Addr) (sN sC fB fO : Nat) (t7 t8 : Int) (σ : Store) : Prop := SndF Pr F.slices_IndexFunc slices_IndexFunc.H slices_IndexFunc.T K 2 [.v (.slice sA sN sC), .v (.func (.func F.cache_Cache_at_1) #[] #[.pointer (some ⟨fB, fO, none⟩)]), .v (.int .i64 t7), .v (.int .i64 t8)] [] σ
def slices_IndexFunc.b2 (K : Value → Store → Prop) (rr2 : slices_IndexFunc.R2) (sA : Option Addr) (sN sC fB fO : Nat) (t7 t8 : Int) (σ : Store) : Prop :=
  cond (decide (t8 < t7))
  (Req (decide (0 ≤ t8) && decide (t8 < ((sN : Nat) : Int))) (
      PtrNN sA fun t14B t14O =>
      ∃ t150 : Int, ∃ t151 : Int, ∃ t152 : Int, ∃ t153 : Int, ∃ t154 : Int, ∃ t155 : Int, cellsAt σ t14B (t14O + t8.toNat * 6) 6 = some [.int .i64 t150, .int .i64 t151, .int .u32 t152, .int .u32 t153, .int .u32 t154, .int .u32 t155] ∧
      Spec Pr F.cache_Cache_at_1 [.agg #[.int .i64 t150, .int .i64 t151, .int .u32 t152, .int .u32 t153, .int .u32 t154, .int .u32 t155], .pointer (some ⟨fB, fO, none⟩)] σ fun v σ_ => ∃ t16 : Bool, v = .bool t16 ∧
      cond t16
      (K (.int .i64 t8) σ_)
      (Hop (slices_IndexFunc.T 2) (slices_IndexFunc.T 2) (rr2 sA sN sC fB fO t7 (IntKind.wrap .i64 (t8 + 1)) σ_))))
  (Hop (slices_IndexFunc.T 7) (slices_IndexFunc.T 7) (slices_IndexFunc.j7 K σ))
def slices_IndexFunc.l2 (K : Value → Store → Prop) : Nat → slices_IndexFunc.R2
  | 0, _, _, _, _, _, _, _, _ => False
  | n + 1, sA, sN, sC, fB, fO, t7, t8, σ => slices_IndexFunc.b2 K (slices_IndexFunc.l2 K n) sA sN sC fB fO t7 t8 σ
def slices_IndexFunc.m (K : Value → Store → Prop) (sA : Option Addr) (sN sC fB fO : Nat) (σ : Store) : Prop :=
  Hop (slices_IndexFunc.T 2) (slices_IndexFunc.T 2) (∃ n : Nat, slices_IndexFunc.l2 K n sA sN sC fB fO ((sN : Nat) : Int) 0 σ)
theorem slices_IndexFunc.d7_ok {K : Value → Store → Prop} {g : slices_IndexFunc.R7} (hg : ∀ σ, g σ → slices_IndexFunc.S7 K σ) (vs : List AV) (bs : List (List Value)) (σ : Store) (h : slices_IndexFunc.d7 g vs bs σ) : SndF Pr F.slices_IndexFunc slices_IndexFunc.H slices_IndexFunc.T K 7 vs bs σ := by
  unfold slices_IndexFunc.d7 at h
  split at h
  · exact hg _ h
  · exact h.elim
theorem slices_IndexFunc.d2_ok {K : Value → Store → Prop} {g : slices_IndexFunc.R2} (hg : ∀ sA sN sC fB fO t7 t8 σ, g sA sN sC fB fO t7 t8 σ → slices_IndexFunc.S2 K sA sN sC fB fO t7 t8 σ) (vs : List AV) (bs : List (List Value)) (σ : Store) (h : slices_IndexFunc.d2 g vs bs σ) : SndF Pr F.slices_IndexFunc slices_IndexFunc.H slices_IndexFunc.T K 2 vs bs σ := by
  unfold slices_IndexFunc.d2 at h
  split at h
  · exact hg _ _ _ _ _ _ _ _ h
  · exact h.elim
noncomputable def slices_IndexFunc.h7 (K : Value → Store → Prop) : Hand := hsel []
theorem slices_IndexFunc.j7_eq (K : Value → Store → Prop) (σ : Store) : (seg Pr slices_IndexFunc.H F.slices_IndexFunc slices_IndexFunc.T (slices_IndexFunc.h7 K ) K (slices_IndexFunc.T 7) (Ev.cutE slices_IndexFunc.H 7 [] []) σ) = slices_IndexFunc.j7 K σ := by kernel_rfl
theorem slices_IndexFunc.j7_ok (K : Value → Store → Prop) (σ : Store) (h : slices_IndexFunc.j7 K σ) : slices_IndexFunc.S7 K σ := by
  rw [← slices_IndexFunc.j7_eq] at h
  exact seg_snd Pr_mixed (hsel_sound fun x hx => by
    cases hx) h
noncomputable def slices_IndexFunc.h2 (K : Value → Store → Prop) (rr2 : slices_IndexFunc.R2) : Hand := hsel [(7, slices_IndexFunc.d7 (slices_IndexFunc.j7 K )), (2, slices_IndexFunc.d2 rr2)]
theorem slices_IndexFunc.b2_eq (K : Value → Store → Prop) (rr2 : slices_IndexFunc.R2) (sA : Option Addr) (sN sC fB fO : Nat) (t7 t8 : Int) (σ : Store) : (seg Pr slices_IndexFunc.H F.slices_IndexFunc slices_IndexFunc.T (slices_IndexFunc.h2 K rr2) K (slices_IndexFunc.T 2) (Ev.cutE slices_IndexFunc.H 2 [.v (.slice sA sN sC), .v (.func (.func F.cache_Cache_at_1) #[] #[.pointer (some ⟨fB, fO, none⟩)]), .v (.int .i64 t7), .v (.int .i64 t8)] []) σ) = slices_IndexFunc.b2 K rr2 sA sN sC fB fO t7 t8 σ := by kernel_rfl
theorem slices_IndexFunc.b2_ok (K : Value → Store → Prop) (rr2 : slices_IndexFunc.R2) (hh2 : ∀ sA sN sC fB fO t7 t8 σ, rr2 sA sN sC fB fO t7 t8 σ → slices_IndexFunc.S2 K sA sN sC fB fO t7 t8 σ) (sA : Option Addr) (sN sC fB fO : Nat) (t7 t8 : Int) (σ : Store) (h : slices_IndexFunc.b2 K rr2 sA sN sC fB fO t7 t8 σ) : slices_IndexFunc.S2 K sA sN sC fB fO t7 t8 σ := by
  rw [← slices_IndexFunc.b2_eq] at h
  exact seg_snd Pr_mixed (hsel_sound fun x hx => by
    simp only [List.mem_cons, List.not_mem_nil, or_false] at hx
    rcases hx with rfl | rfl
    · exact slices_IndexFunc.d7_ok fun _ h => slices_IndexFunc.j7_ok K _ h
    · exact slices_IndexFunc.d2_ok hh2) h
theorem slices_IndexFunc.l2_ok (K : Value → Store → Prop) : ∀ (n : Nat) (sA : Option Addr) (sN sC fB fO : Nat) (t7 t8 : Int) (σ : Store), slices_IndexFunc.l2 K n sA sN sC fB fO t7 t8 σ → slices_IndexFunc.S2 K sA sN sC fB fO t7 t8 σ
  | 0, _, _, _, _, _, _, _, _, h => h.elim
  | n + 1, _, _, _, _, _, _, _, _, h => slices_IndexFunc.b2_ok K (slices_IndexFunc.l2 K n) (slices_IndexFunc.l2_ok K n) _ _ _ _ _ _ _ _ h
noncomputable def slices_IndexFunc.h (K : Value → Store → Prop) : Hand := hsel [(2, slices_IndexFunc.d2 fun sA sN sC fB fO t7 t8 σ => ∃ n : Nat, slices_IndexFunc.l2 K n sA sN sC fB fO t7 t8 σ)]
theorem slices_IndexFunc.m_eq (K : Value → Store → Prop) (sA : Option Addr) (sN sC fB fO : Nat) (σ : Store) : (segF Pr slices_IndexFunc.H F.slices_IndexFunc slices_IndexFunc.T (slices_IndexFunc.h K) K [.slice sA sN sC, .func (.func F.cache_Cache_at_1) #[] #[.pointer (some ⟨fB, fO, none⟩)]] σ) = slices_IndexFunc.m K sA sN sC fB fO σ := by kernel_rfl
theorem slices_IndexFunc.ok {K : Value → Store → Prop} {sA : Option Addr} {sN sC fB fO : Nat} {σ : Store} (h : slices_IndexFunc.m K sA sN sC fB fO σ) : Spec Pr F.slices_IndexFunc [.slice sA sN sC, .func (.func F.cache_Cache_at_1) #[] #[.pointer (some ⟨fB, fO, none⟩)]] σ K := by
  rw [← slices_IndexFunc.m_eq] at h
  exact segF_spec Pr_mixed (hsel_sound fun x hx => by
    simp only [List.mem_cons, List.not_mem_nil, or_false] at hx
    subst hx
    exact slices_IndexFunc.d2_ok fun _ _ _ _ _ _ _ _ ⟨n, h⟩ => slices_IndexFunc.l2_ok K n _ _ _ _ _ _ _ _ h) h

/-! ### (*corral/cache.Cache).at$1 -/
def cache_Cache_at_1.H : Hints := { esc := [], cuts := [] }
noncomputable def cache_Cache_at_1.T : Nat → List Item := stk Pr F.cache_Cache_at_1 []
def cache_Cache_at_1.m (K : Value → Store → Prop) (e0 e1 e2 e3 e4 e5 : Int) (cap0B cap0O : Nat) (σ : Store) : Prop :=
  ∃ t6 : Int, cellAt σ cap0B cap0O = some (.int .i64 t6) ∧
  K (.bool (e0 == t6)) σ
noncomputable def cache_Cache_at_1.h (K : Value → Store → Prop) : Hand := hsel []
theorem cache_Cache_at_1.m_eq (K : Value → Store → Prop) (e0 e1 e2 e3 e4 e5 : Int) (cap0B cap0O : Nat) (σ : Store) : (segF Pr cache_Cache_at_1.H F.cache_Cache_at_1 cache_Cache_at_1.T (cache_Cache_at_1.h K) K [.agg #[.int .i64 e0, .int .i64 e1, .int .u32 e2, .int .u32 e3, .int .u32 e4, .int .u32 e5], .pointer (some ⟨cap0B, cap0O, none⟩)] σ) = cache_Cache_at_1.m K e0 e1 e2 e3 e4 e5 cap0B cap0O σ := by kernel_rfl
theorem cache_Cache_at_1.ok {K : Value → Store → Prop} {e0 e1 e2 e3 e4 e5 : Int} {cap0B cap0O : Nat} {σ : Store} (h : cache_Cache_at_1.m K e0 e1 e2 e3 e4 e5 cap0B cap0O σ) : Spec Pr F.cache_Cache_at_1 [.agg #[.int .i64 e0, .int .i64 e1, .int .u32 e2, .int .u32 e3, .int .u32 e4, .int .u32 e5], .pointer (some ⟨cap0B, cap0O, none⟩)] σ K := by
  rw [← cache_Cache_at_1.m_eq] at h
  exact segF_spec Pr_mixed (hsel_sound fun x hx => by
    cases hx) h

/-! ### slices.Clone[[]corral/cache.Entry,corral/cache.Entry] -/
def slices_Clone.H : Hints := { esc := [5], cuts := [] }
noncomputable def slices_Clone.T : Nat → List Item := stk Pr F.slices_Clone []
def slices_Clone.m (K : Value → Store → Prop) (sA : Option Addr) (sN sC : Nat) (σ : Store) : Prop :=
  cond sA.isNone
  (K (.slice none 0 0) σ)
  (New σ ⟨59, [], (0, 0)⟩ fun t5B σ_ =>
    ∃ ys : List Value, srcCells σ_ sA (sN * 6) = some ys ∧
    AppK 59 6 32 [.int .i64 0, .int .i64 0, .int .u32 0, .int .u32 0, .int .u32 0, .int .u32 0] σ_ (some ⟨t5B, 0, none⟩) 0 0 ys sN fun t7A t7N t7C σ_1 =>
    K (.slice t7A t7N t7C) σ_1)
noncomputable def slices_Clone.h (K : Value → Store → Prop) : Hand := hsel []
theorem slices_Clone.m_eq (K : Value → Store → Prop) (sA : Option Addr) (sN sC : Nat) (σ : Store) : (segF Pr slices_Clone.H F.slices_Clone slices_Clone.T (slices_Clone.h K) K [.slice sA sN sC] σ) = slices_Clone.m K sA sN sC σ := by kernel_rfl
theorem slices_Clone.ok {K : Value → Store → Prop} {sA : Option Addr} {sN sC : Nat} {σ : Store} (h : slices_Clone.m K sA sN sC σ) : Spec Pr F.slices_Clone [.slice sA sN sC] σ K := by
  rw [← slices_Clone.m_eq] at h
  exact segF_spec Pr_mixed (hsel_sound fun x hx => by
    cases hx) h

/-! ### slices.Delete[[]corral/cache.Entry,corral/cache.Entry] -/
def slices_Delete.H : Hints := { esc := [], cuts := [] }
noncomputable def slices_Delete.T : Nat → List Item := stk Pr F.slices_Delete []
def slices_Delete.m (K : Value → Store → Prop) (sA : Option Addr) (sN sC : Nat) (i j : Int) (σ : Store) : Prop :=
  Req (okIdx ((sN : Nat) : Int) sC) (
    Req (okIdx j (((sN : Nat) : Int).toNat)) (
      Req (okIdx i j.toNat) (
        cond (i == j)
        (K (.slice sA sN sC) σ)
        (Req (okIdx i sC) (
            Req (okIdx j sN) (
              ∃ ys : List Value, srcCells σ (slAddr sA j.toNat sC 6) ((sN - j.toNat) * 6) = some ys ∧
              AppK 59 6 32 [.int .i64 0, .int .i64 0, .int .u32 0, .int .u32 0, .int .u32 0, .int .u32 0] σ (slAddr sA 0 sC 6) i.toNat sC ys (sN - j.toNat) fun t26A t26N t26C σ_ =>
              Req (okIdx ((sN : Nat) : Int) t26C) (
                Req (okIdx ((t26N : Nat) : Int) (((sN : Nat) : Int).toNat)) (
                  PutK σ_ (slAddr t26A (((t26N : Nat) : Int).toNat) t26C 6) (((((sN : Nat) : Int).toNat) - (((t26N : Nat) : Int).toNat)) * 6) (zeroN [.int .i64 0, .int .i64 0, .int .u32 0, .int .u32 0, .int .u32 0, .int .u32 0] ((((sN : Nat) : Int).toNat) - (((t26N : Nat) : Int).toNat))) fun σ_1 =>
                  K (.slice t26A t26N t26C) σ_1))))))))
noncomputable def slices_Delete.h (K : Value → Store → Prop) : Hand := hsel []
theorem slices_Delete.m_eq (K : Value → Store → Prop) (sA : Option Addr) (sN sC : Nat) (i j : Int) (σ : Store) : (segF Pr slices_Delete.H F.slices_Delete slices_Delete.T (slices_Delete.h K) K [.slice sA sN sC, .int .i64 i, .int .i64 j] σ) = slices_Delete.m K sA sN sC i j σ := by kernel_rfl
theorem slices_Delete.ok {K : Value → Store → Prop} {sA : Option Addr} {sN sC : Nat} {i j : Int} {σ : Store} (h : slices_Delete.m K sA sN sC i j σ) : Spec Pr F.slices_Delete [.slice sA sN sC, .int .i64 i, .int .i64 j] σ K := by
  rw [← slices_Delete.m_eq] at h
  exact segF_spec Pr_mixed (hsel_sound fun x hx => by
    cases hx) h

/-! ### slices.Grow[[]corral/cache.Entry,corral/cache.Entry] -/
def slices_Grow.H : Hints := { esc := [], cuts := [(3, [0, 1], [])] }
noncomputable def slices_Grow.T : Nat → List Item := stk Pr F.slices_Grow [(3, [1, 1])]
abbrev slices_Grow.R3 : Type := Option Addr → Nat → Nat → Int → Store → Prop
def slices_Grow.d3 (g : slices_Grow.R3) : List AV → List (List Value) → Store → Prop
  | [.v (.slice sA sN sC), .v (.int .i64 n_)], [], σ => g sA sN sC n_ σ
  | _, _, _ => False
def slices_Grow.S3 (K : Value → Store → Prop) (sA : Option Addr) (sN sC : Nat) (n_ : Int) (σ : Store) : Prop := SndF Pr F.slices_Grow slices_Grow.H slices_Grow.T K 3 [.v (.slice sA sN sC), .v (.int .i64 n_)] [] σ
def slices_Grow.j3 (K : Value → Store → Prop) (sA : Option Addr) (sN sC : Nat) (n_ : Int) (σ : Store) : Prop :=
  cond (decide ((IntKind.wrap .i64 (n_ - (IntKind.wrap .i64 (((sC : Nat) : Int) - ((sN : Nat) : Int))))) > 0))
  (Req (okIdx ((sC : Nat) : Int) sC) (
      AppN 59 6 32 [.int .i64 0, .int .i64 0, .int .u32 0, .int .u32 0, .int .u32 0, .int .u32 0] σ (slAddr sA 0 sC 6) (((sC : Nat) : Int).toNat) sC (IntKind.wrap .i64 (n_ - (IntKind.wrap .i64 (((sC : Nat) : Int) - ((sN : Nat) : Int))))) fun t22A t22N t22C σ_ =>
      Req (okIdx ((sN : Nat) : Int) t22C) (
        K (.slice (slAddr t22A 0 t22C 6) (((sN : Nat) : Int).toNat) t22C) σ_)))
  (K (.slice sA sN sC) σ)
def slices_Grow.m (K : Value → Store → Prop) (sA : Option Addr) (sN sC : Nat) (n_ : Int) (σ : Store) : Prop :=
  cond (decide (n_ < 0))
  (False)
  (Hop (slices_Grow.T 3) (slices_Grow.T 3) (slices_Grow.j3 K sA sN sC n_ σ))
theorem slices_Grow.d3_ok {K : Value → Store → Prop} {g : slices_Grow.R3} (hg : ∀ sA sN sC n_ σ, g sA sN sC n_ σ → slices_Grow.S3 K sA sN sC n_ σ) (vs : List AV) (bs : List (List Value)) (σ : Store) (h : slices_Grow.d3 g vs bs σ) : SndF Pr F.slices_Grow slices_Grow.H slices_Grow.T K 3 vs bs σ := by
  unfold slices_Grow.d3 at h
  split at h
  · exact hg _ _ _ _ _ h
  · exact h.elim
noncomputable def slices_Grow.h3 (K : Value → Store → Prop) : Hand := hsel []
theorem slices_Grow.j3_eq (K : Value → Store → Prop) (sA : Option Addr) (sN sC : Nat) (n_ : Int) (σ : Store) : (seg Pr slices_Grow.H F.slices_Grow slices_Grow.T (slices_Grow.h3 K ) K (slices_Grow.T 3) (Ev.cutE slices_Grow.H 3 [.v (.slice sA sN sC), .v (.int .i64 n_)] []) σ) = slices_Grow.j3 K sA sN sC n_ σ := by kernel_rfl
theorem slices_Grow.j3_ok (K : Value → Store → Prop) (sA : Option Addr) (sN sC : Nat) (n_ : Int) (σ : Store) (h : slices_Grow.j3 K sA sN sC n_ σ) : slices_Grow.S3 K sA sN sC n_ σ := by
  rw [← slices_Grow.j3_eq] at h
  exact seg_snd Pr_mixed (hsel_sound fun x hx => by
    cases hx) h
noncomputable def slices_Grow.h (K : Value → Store → Prop) : Hand := hsel [(3, slices_Grow.d3 (slices_Grow.j3 K ))]
theorem slices_Grow.m_eq (K : Value → Store → Prop) (sA : Option Addr) (sN sC : Nat) (n_ : Int) (σ : Store) : (segF Pr slices_Grow.H F.slices_Grow slices_Grow.T (slices_Grow.h K) K [.slice sA sN sC, .int .i64 n_] σ) = slices_Grow.m K sA sN sC n_ σ := by kernel_rfl
theorem slices_Grow.ok {K : Value → Store → Prop} {sA : Option Addr} {sN sC : Nat} {n_ : Int} {σ : Store} (h : slices_Grow.m K sA sN sC n_ σ) : Spec Pr F.slices_Grow [.slice sA sN sC, .int .i64 n_] σ K := by
  rw [← slices_Grow.m_eq] at h
  exact segF_spec Pr_mixed (hsel_sound fun x hx => by
    simp only [List.mem_cons, List.not_mem_nil, or_false] at hx
    subst hx
    exact slices_Grow.d3_ok fun _ _ _ _ _ h => slices_Grow.j3_ok K _ _ _ _ _ h) h

/-! ### slices.Concat[[]corral/cache.Entry,corral/cache.Entry] -/
def slices_Concat.H : Hints := { esc := [], cuts := [(3, [0, 3, 9, 10, 11], []), (9, [0, 3], []), (11, [6, 25, 26, 27], []), (15, [6], [])] }
noncomputable def slices_Concat.T : Nat → List Item := stk Pr F.slices_Concat [(3, [1, 1, 0, 1, 0, 0]), (9, [1, 1, 1]), (11, [1, 1, 1, 1, 0, 1, 0, 0]), (15, [1, 1, 1, 1, 1])]
abbrev slices_Concat.R15 : Type := Option Addr → Nat → Nat → Store → Prop
abbrev slices_Concat.R11 : Type := Option Addr → Nat → Nat → Option Addr → Nat → Nat → Int → Int → Store → Prop
abbrev slices_Concat.R9 : Type := Option Addr → Nat → Nat → Int → Store → Prop
abbrev slices_Concat.R3 : Type := Option Addr → Nat → Nat → Int → Option Addr → Nat → Nat → Int → Int → Store → Prop
def slices_Concat.d15 (g : slices_Concat.R15) : List AV → List (List Value) → Store → Prop
  | [.v (.slice newsliceA newsliceN newsliceC)], [], σ => g newsliceA newsliceN newsliceC σ
  | _, _, _ => False
def slices_Concat.S15 (K : Value → Store → Prop) (newsliceA : Option Addr) (newsliceN newsliceC : Nat) (σ : Store) : Prop := SndF Pr F.slices_Concat slices_Concat.H slices_Concat.T K 15 [.v (.slice newsliceA newsliceN newsliceC)] [] σ
def slices_Concat.j15 (K : Value → Store → Prop) (newsliceA : Option Addr) (newsliceN newsliceC : Nat) (σ : Store) : Prop :=
  K (.slice newsliceA newsliceN newsliceC) σ
def slices_Concat.d11 (g : slices_Concat.R11) : List AV → List (List Value) → Store → Prop
  | [.v (.slice newsliceA newsliceN newsliceC), .v (.slice t25A t25N t25C), .v (.int .i64 t26), .v (.int .i64 t27)], [], σ => g newsliceA newsliceN newsliceC t25A t25N t25C t26 t27 σ
  | _, _, _ => False
def slices_Concat.S11 (K : Value → Store → Prop) (newsliceA : Option Addr) (newsliceN newsliceC : Nat) (t25A : Option Addr) (t25N t25C : Nat) (t26 t27 : Int) (σ : Store) : Prop := SndF Pr F.slices_Concat slices_Concat.H slices_Concat.T K 11 [.v (.slice newsliceA newsliceN newsliceC), .v (.slice t25A t25N t25C), .v (.int .i64 t26), .v (.int .i64 t27)] [] σ
def slices_Concat.b11 (K : Value → Store → Prop) (rr11 : slices_Concat.R11) (newsliceA : Option Addr) (newsliceN newsliceC : Nat) (t25A : Option Addr) (t25N t25C : Nat) (t26 t27 : Int) (σ : Store) : Prop :=
  cond (decide (t27 < t26))
  (Req (decide (0 ≤ t27) && decide (t27 < ((t25N : Nat) : Int))) (
      PtrNN t25A fun t29B t29O =>
      ∃ t30A : Option Addr, ∃ t30N : Nat, ∃ t30C : Nat, cellAt σ t29B (t29O + t27.toNat * 1) = some (.slice t30A t30N t30C) ∧
      ∃ ys : List Value, srcCells σ t30A (t30N * 6) = some ys ∧
      AppK 59 6 32 [.int .i64 0, .int .i64 0, .int .u32 0, .int .u32 0, .int .u32 0, .int .u32 0] σ newsliceA newsliceN newsliceC ys t30N fun t33A t33N t33C σ_ =>
      Hop (slices_Concat.T 11) (slices_Concat.T 11) (rr11 t33A t33N t33C t25A t25N t25C t26 (IntKind.wrap .i64 (t27 + 1)) σ_)))
  (Hop (slices_Concat.T 15) (slices_Concat.T 15) (slices_Concat.j15 K newsliceA newsliceN newsliceC σ))
def slices_Concat.l11 (K : Value → Store → Prop) : Nat → slices_Concat.R11
  | 0, _, _, _, _, _, _, _, _, _ => False
  | n + 1, newsliceA, newsliceN, newsliceC, t25A, t25N, t25C, t26, t27, σ => slices_Concat.b11 K (slices_Concat.l11 K n) newsliceA newsliceN newsliceC t25A t25N t25C t26 t27 σ
def slices_Concat.d9 (g : slices_Concat.R9) : List AV → List (List Value) → Store → Prop
  | [.v (.slice slicesA slicesN slicesC), .v (.int .i64 size)], [], σ => g slicesA slicesN slicesC size σ
  | _, _, _ => False
def slices_Concat.S9 (K : Value → Store → Prop) (slicesA : Option Addr) (slicesN slicesC : Nat) (size : Int) (σ : Store) : Prop := SndF Pr F.slices_Concat slices_Concat.H slices_Concat.T K 9 [.v (.slice slicesA slicesN slicesC), .v (.int .i64 size)] [] σ
def slices_Concat.j9 (K : Value → Store → Prop) (slicesA : Option Addr) (slicesN slicesC : Nat) (size : Int) (σ : Store) : Prop :=
  Spec Pr F.slices_Grow [.slice none 0 0, .int .i64 size] σ fun v σ_ => ∃ t24A : Option Addr, ∃ t24N : Nat, ∃ t24C : Nat, v = .slice t24A t24N t24C ∧
  Hop (slices_Concat.T 11) (slices_Concat.T 11) (∃ n : Nat, slices_Concat.l11 K n t24A t24N t24C slicesA slicesN slicesC ((slicesN : Nat) : Int) 0 σ_)
def slices_Concat.d3 (g : slices_Concat.R3) : List AV → List (List Value) → Store → Prop
  | [.v (.slice slicesA slicesN slicesC), .v (.int .i64 size), .v (.slice t9A t9N t9C), .v (.int .i64 t10), .v (.int .i64 t11)], [], σ => g slicesA slicesN slicesC size t9A t9N t9C t10 t11 σ
  | _, _, _ => False
def slices_Concat.S3 (K : Value → Store → Prop) (slicesA : Option Addr) (slicesN slicesC : Nat) (size : Int) (t9A : Option Addr) (t9N t9C : Nat) (t10 t11 : Int) (σ : Store) : Prop := SndF Pr F.slices_Concat slices_Concat.H slices_Concat.T K 3 [.v (.slice slicesA slicesN slicesC), .v (.int .i64 size), .v (.slice t9A t9N t9C), .v (.int .i64 t10), .v (.int .i64 t11)] [] σ
def slices_Concat.b3 (K : Value → Store → Prop) (rr3 : slices_Concat.R3) (slicesA : Option Addr) (slicesN slicesC : Nat) (size : Int) (t9A : Option Addr) (t9N t9C : Nat) (t10 t11 : Int) (σ : Store) : Prop :=
  cond (decide (t11 < t10))
  (Req (decide (0 ≤ t11) && decide (t11 < ((t9N : Nat) : Int))) (
      PtrNN t9A fun t13B t13O =>
      ∃ t14A : Option Addr, ∃ t14N : Nat, ∃ t14C : Nat, cellAt σ t13B (t13O + t11.toNat * 1) = some (.slice t14A t14N t14C) ∧
      cond (decide ((IntKind.wrap .i64 (size + ((t14N : Nat) : Int))) < 0))
      (False)
      (Hop (slices_Concat.T 3) (slices_Concat.T 3) (rr3 slicesA slicesN slicesC (IntKind.wrap .i64 (size + ((t14N : Nat) : Int))) t9A t9N t9C t10 (IntKind.wrap .i64 (t11 + 1)) σ))))
  (Hop (slices_Concat.T 9) (slices_Concat.T 9) (slices_Concat.j9 K slicesA slicesN slicesC size σ))
def slices_Concat.l3 (K : Value → Store → Prop) : Nat → slices_Concat.R3
  | 0, _, _, _, _, _, _, _, _, _, _ => False
  | n + 1, slicesA, slicesN, slicesC, size, t9A, t9N, t9C, t10, t11, σ => slices_Concat.b3 K (slices_Concat.l3 K n) slicesA slicesN slicesC size t9A t9N t9C t10 t11 σ
def slices_Concat.m (K : Value → Store → Prop) (slicesA : Option Addr) (slicesN slicesC : Nat) (σ : Store) : Prop :=
  Hop (slices_Concat.T 3) (slices_Concat.T 3) (∃ n : Nat, slices_Concat.l3 K n slicesA slicesN slicesC 0 slicesA slicesN slicesC ((slicesN : Nat) : Int) 0 σ)
theorem slices_Concat.d15_ok {K : Value → Store → Prop} {g : slices_Concat.R15} (hg : ∀ newsliceA newsliceN newsliceC σ, g newsliceA newsliceN newsliceC σ → slices_Concat.S15 K newsliceA newsliceN newsliceC σ) (vs : List AV) (bs : List (List Value)) (σ : Store) (h : slices_Concat.d15 g vs bs σ) : SndF Pr F.slices_Concat slices_Concat.H slices_Concat.T K 15 vs bs σ := by
  unfold slices_Concat.d15 at h
  split at h
  · exact hg _ _ _ _ h
  · exact h.elim
theorem slices_Concat.d11_ok {K : Value → Store → Prop} {g : slices_Concat.R11} (hg : ∀ newsliceA newsliceN newsliceC t25A t25N t25C t26 t27 σ, g newsliceA newsliceN newsliceC t25A t25N t25C t26 t27 σ → slices_Concat.S11 K newsliceA newsliceN newsliceC t25A t25N t25C t26 t27 σ) (vs : List AV) (bs : List (List Value)) (σ : Store) (h : slices_Concat.d11 g vs bs σ) : SndF Pr F.slices_Concat slices_Concat.H slices_Concat.T K 11 vs bs σ := by
  unfold slices_Concat.d11 at h
  split at h
  · exact hg _ _ _ _ _ _ _ _ _ h
  · exact h.elim
theorem slices_Concat.d9_ok {K : Value → Store → Prop} {g : slices_Concat.R9} (hg : ∀ slicesA slicesN slicesC size σ, g slicesA slicesN slicesC size σ → slices_Concat.S9 K slicesA slicesN slicesC size σ) (vs : List AV) (bs : List (List Value)) (σ : Store) (h : slices_Concat.d9 g vs bs σ) : SndF Pr F.slices_Concat slices_Concat.H slices_Concat.T K 9 vs bs σ := by
  unfold slices_Concat.d9 at h
  split at h
  · exact hg _ _ _ _ _ h
  · exact h.elim
theorem slices_Concat.d3_ok {K : Value → Store → Prop} {g : slices_Concat.R3} (hg : ∀ slicesA slicesN slicesC size t9A t9N t9C t10 t11 σ, g slicesA slicesN slicesC size t9A t9N t9C t10 t11 σ → slices_Concat.S3 K slicesA slicesN slicesC size t9A t9N t9C t10 t11 σ) (vs : List AV) (bs : List (List Value)) (σ : Store) (h : slices_Concat.d3 g vs bs σ) : SndF Pr F.slices_Concat slices_Concat.H slices_Concat.T K 3 vs bs σ := by
  unfold slices_Concat.d3 at h
  split at h
  · exact hg _ _ _ _ _ _ _ _ _ _ h
  · exact h.elim
noncomputable def slices_Concat.h15 (K : Value → Store → Prop) : Hand := hsel []
theorem slices_Concat.j15_eq (K : Value → Store → Prop) (newsliceA : Option Addr) (newsliceN newsliceC : Nat) (σ : Store) : (seg Pr slices_Concat.H F.slices_Concat slices_Concat.T (slices_Concat.h15 K ) K (slices_Concat.T 15) (Ev.cutE slices_Concat.H 15 [.v (.slice newsliceA newsliceN newsliceC)] []) σ) = slices_Concat.j15 K newsliceA newsliceN newsliceC σ := by kernel_rfl
theorem slices_Concat.j15_ok (K : Value → Store → Prop) (newsliceA : Option Addr) (newsliceN newsliceC : Nat) (σ : Store) (h : slices_Concat.j15 K newsliceA newsliceN newsliceC σ) : slices_Concat.S15 K newsliceA newsliceN newsliceC σ := by
  rw [← slices_Concat.j15_eq] at h
  exact seg_snd Pr_mixed (hsel_sound fun x hx => by
    cases hx) h
noncomputable def slices_Concat.h11 (K : Value → Store → Prop) (rr11 : slices_Concat.R11) : Hand := hsel [(15, slices_Concat.d15 (slices_Concat.j15 K )), (11, slices_Concat.d11 rr11)]
theorem slices_Concat.b11_eq (K : Value → Store → Prop) (rr11 : slices_Concat.R11) (newsliceA : Option Addr) (newsliceN newsliceC : Nat) (t25A : Option Addr) (t25N t25C : Nat) (t26 t27 : Int) (σ : Store) : (seg Pr slices_Concat.H F.slices_Concat slices_Concat.T (slices_Concat.h11 K rr11) K (slices_Concat.T 11) (Ev.cutE slices_Concat.H 11 [.v (.slice newsliceA newsliceN newsliceC), .v (.slice t25A t25N t25C), .v (.int .i64 t26), .v (.int .i64 t27)] []) σ) = slices_Concat.b11 K rr11 newsliceA newsliceN newsliceC t25A t25N t25C t26 t27 σ := by kernel_rfl
theorem slices_Concat.b11_ok (K : Value → Store → Prop) (rr11 : slices_Concat.R11) (hh11 : ∀ newsliceA newsliceN newsliceC t25A t25N t25C t26 t27 σ, rr11 newsliceA newsliceN newsliceC t25A t25N t25C t26 t27 σ → slices_Concat.S11 K newsliceA newsliceN newsliceC t25A t25N t25C t26 t27 σ) (newsliceA : Option Addr) (newsliceN newsliceC : Nat) (t25A : Option Addr) (t25N t25C : Nat) (t26 t27 : Int) (σ : Store) (h : slices_Concat.b11 K rr11 newsliceA newsliceN newsliceC t25A t25N t25C t26 t27 σ) : slices_Concat.S11 K newsliceA newsliceN newsliceC t25A t25N t25C t26 t27 σ := by
  rw [← slices_Concat.b11_eq] at h
  exact seg_snd Pr_mixed (hsel_sound fun x hx => by
    simp only [List.mem_cons, List.not_mem_nil, or_false] at hx
    rcases hx with rfl | rfl
    · exact slices_Concat.d15_ok fun _ _ _ _ h => slices_Concat.j15_ok K _ _ _ _ h
    · exact slices_Concat.d11_ok hh11) h
theorem slices_Concat.l11_ok (K : Value → Store → Prop) : ∀ (n : Nat) (newsliceA : Option Addr) (newsliceN newsliceC : Nat) (t25A : Option Addr) (t25N t25C : Nat) (t26 t27 : Int) (σ : Store), slices_Concat.l11 K n newsliceA newsliceN newsliceC t25A t25N t25C t26 t27 σ → slices_Concat.S11 K newsliceA newsliceN newsliceC t25A t25N t25C t26 t27 σ
  | 0, _, _, _, _, _, _, _, _, _, h => h.elim
  | n + 1, _, _, _, _, _, _, _, _, _, h => slices_Concat.b11_ok K (slices_Concat.l11 K n) (slices_Concat.l11_ok K n) _ _ _ _ _ _ _ _ _ h
noncomputable def slices_Concat.h9 (K : Value → Store → Prop) : Hand := hsel [(11, slices_Concat.d11 fun newsliceA newsliceN newsliceC t25A t25N t25C t26 t27 σ => ∃ n : Nat, slices_Concat.l11 K n newsliceA newsliceN newsliceC t25A t25N t25C t26 t27 σ)]
theorem slices_Concat.j9_eq (K : Value → Store → Prop) (slicesA : Option Addr) (slicesN slicesC : Nat) (size : Int) (σ : Store) : (seg Pr slices_Concat.H F.slices_Concat slices_Concat.T (slices_Concat.h9 K ) K (slices_Concat.T 9) (Ev.cutE slices_Concat.H 9 [.v (.slice slicesA slicesN slicesC), .v (.int .i64 size)] []) σ) = slices_Concat.j9 K slicesA slicesN slicesC size σ := by kernel_rfl
theorem slices_Concat.j9_ok (K : Value → Store → Prop) (slicesA : Option Addr) (slicesN slicesC : Nat) (size : Int) (σ : Store) (h : slices_Concat.j9 K slicesA slicesN slicesC size σ) : slices_Concat.S9 K slicesA slicesN slicesC size σ := by
  rw [← slices_Concat.j9_eq] at h
  exact seg_snd Pr_mixed (hsel_sound fun x hx => by
    simp only [List.mem_cons, List.not_mem_nil, or_false] at hx
    subst hx
    exact slices_Concat.d11_ok fun _ _ _ _ _ _ _ _ _ ⟨n, h⟩ => slices_Concat.l11_ok K n _ _ _ _ _ _ _ _ _ h) h
noncomputable def slices_Concat.h3 (K : Value → Store → Prop) (rr3 : slices_Concat.R3) : Hand := hsel [(9, slices_Concat.d9 (slices_Concat.j9 K )), (3, slices_Concat.d3 rr3)]
theorem slices_Concat.b3_eq (K : Value → Store → Prop) (rr3 : slices_Concat.R3) (slicesA : Option Addr) (slicesN slicesC : Nat) (size : Int) (t9A : Option Addr) (t9N t9C : Nat) (t10 t11 : Int) (σ : Store) : (seg Pr slices_Concat.H F.slices_Concat slices_Concat.T (slices_Concat.h3 K rr3) K (slices_Concat.T 3) (Ev.cutE slices_Concat.H 3 [.v (.slice slicesA slicesN slicesC), .v (.int .i64 size), .v (.slice t9A t9N t9C), .v (.int .i64 t10), .v (.int .i64 t11)] []) σ) = slices_Concat.b3 K rr3 slicesA slicesN slicesC size t9A t9N t9C t10 t11 σ := by kernel_rfl
theorem slices_Concat.b3_ok (K : Value → Store → Prop) (rr3 : slices_Concat.R3) (hh3 : ∀ slicesA slicesN slicesC size t9A t9N t9C t10 t11 σ, rr3 slicesA slicesN slicesC size t9A t9N t9C t10 t11 σ → slices_Concat.S3 K slicesA slicesN slicesC size t9A t9N t9C t10 t11 σ) (slicesA : Option Addr) (slicesN slicesC : Nat) (size : Int) (t9A : Option Addr) (t9N t9C : Nat) (t10 t11 : Int) (σ : Store) (h : slices_Concat.b3 K rr3 slicesA slicesN slicesC size t9A t9N t9C t10 t11 σ) : slices_Concat.S3 K slicesA slicesN slicesC size t9A t9N t9C t10 t11 σ := by
  rw [← slices_Concat.b3_eq] at h
  exact seg_snd Pr_mixed (hsel_sound fun x hx => by
    simp only [List.mem_cons, List.not_mem_nil, or_false] at hx
    rcases hx with rfl | rfl
    · exact slices_Concat.d9_ok fun _ _ _ _ _ h => slices_Concat.j9_ok K _ _ _ _ _ h
    · exact slices_Concat.d3_ok hh3) h
theorem slices_Concat.l3_ok (K : Value → Store → Prop) : ∀ (n : Nat) (slicesA : Option Addr) (slicesN slicesC : Nat) (size : Int) (t9A : Option Addr) (t9N t9C : Nat) (t10 t11 : Int) (σ : Store), slices_Concat.l3 K n slicesA slicesN slicesC size t9A t9N t9C t10 t11 σ → slices_Concat.S3 K slicesA slicesN slicesC size t9A t9N t9C t10 t11 σ
  | 0, _, _, _, _, _, _, _, _, _, _, h => h.elim
  | n + 1, _, _, _, _, _, _, _, _, _, _, h => slices_Concat.b3_ok K (slices_Concat.l3 K n) (slices_Concat.l3_ok K n) _ _ _ _ _ _ _ _ _ _ h
noncomputable def slices_Concat.h (K : Value → Store → Prop) : Hand := hsel [(3, slices_Concat.d3 fun slicesA slicesN slicesC size t9A t9N t9C t10 t11 σ => ∃ n : Nat, slices_Concat.l3 K n slicesA slicesN slicesC size t9A t9N t9C t10 t11 σ)]
theorem slices_Concat.m_eq (K : Value → Store → Prop) (slicesA : Option Addr) (slicesN slicesC : Nat) (σ : Store) : (segF Pr slices_Concat.H F.slices_Concat slices_Concat.T (slices_Concat.h K) K [.slice slicesA slicesN slicesC] σ) = slices_Concat.m K slicesA slicesN slicesC σ := by kernel_rfl
theorem slices_Concat.ok {K : Value → Store → Prop} {slicesA : Option Addr} {slicesN slicesC : Nat} {σ : Store} (h : slices_Concat.m K slicesA slicesN slicesC σ) : Spec Pr F.slices_Concat [.slice slicesA slicesN slicesC] σ K := by
  rw [← slices_Concat.m_eq] at h
  exact segF_spec Pr_mixed (hsel_sound fun x hx => by
    simp only [List.mem_cons, List.not_mem_nil, or_false] at hx
    subst hx
    exact slices_Concat.d3_ok fun _ _ _ _ _ _ _ _ _ _ ⟨n, h⟩ => slices_Concat.l3_ok K n _ _ _ _ _ _ _ _ _ _ h) h

/-! ### slices.Contains[[]int,int] -/
def slices_Contains.H : Hints := { esc := [], cuts := [] }
noncomputable def slices_Contains.T : Nat → List Item := stk Pr F.slices_Contains []
def slices_Contains.m (K : Value → Store → Prop) (sA : Option Addr) (sN sC : Nat) (v : Int) (σ : Store) : Prop :=
  Spec Pr F.slices_Index [.slice sA sN sC, .int .i64 v] σ fun v1 σ_ => ∃ t7 : Int, v1 = .int .i64 t7 ∧
  K (.bool (decide (t7 ≥ 0))) σ_
noncomputable def slices_Contains.h (K : Value → Store → Prop) : Hand := hsel []
theorem slices_Contains.m_eq (K : Value → Store → Prop) (sA : Option Addr) (sN sC : Nat) (v : Int) (σ : Store) : (segF Pr slices_Contains.H F.slices_Contains slices_Contains.T (slices_Contains.h K) K [.slice sA sN sC, .int .i64 v] σ) = slices_Contains.m K sA sN sC v σ := by kernel_rfl
theorem slices_Contains.ok {K : Value → Store → Prop} {sA : Option Addr} {sN sC : Nat} {v : Int} {σ : Store} (h : slices_Contains.m K sA sN sC v σ) : Spec Pr F.slices_Contains [.slice sA sN sC, .int .i64 v] σ K := by
  rw [← slices_Contains.m_eq] at h
  exact segF_spec Pr_mixed (hsel_sound fun x hx => by
    cases hx) h

/-! ### slices.Index[[]int,int] -/
def slices_Index.H : Hints := { esc := [], cuts := [(2, [0, 1, 7, 8], []), (7, [], [])] }
noncomputable def slices_Index.T : Nat → List Item := stk Pr F.slices_Index [(2, [1, 0, 1, 0, 0]), (7, [1, 1])]
abbrev slices_Index.R7 : Type := Store → Prop
abbrev slices_Index.R2 : Type := Option Addr → Nat → Nat → Int → Int → Int → Store → Prop
def slices_Index.d7 (g : slices_Index.R7) : List AV → List (List Value) → Store → Prop
  | [], [], σ => g σ
  | _, _, _ => False
def slices_Index.S7 (K : Value → Store → Prop) (σ : Store) : Prop := SndF Pr F.slices_Index slices_Index.H slices_Index.T K 7 [] [] σ
def slices_Index.j7 (K : Value → Store → Prop) (σ : Store) : Prop :=
  K (.int .i64 (-1)) σ
def slices_Index.d2 (g : slices_Index.R2) : List AV → List (List Value) → Store → Prop
  | [.v (.slice sA sN sC), .v (.int .i64 v), .v (.int .i64 t7), .v (.int .i64 t8)], [], σ => g sA sN sC v t7 t8 σ
  | _, _, _ => False
def slices_Index.S2 (K : Value → Store → Prop) (sA : Option Addr) (sN sC : Nat) (v t7 t8 : Int) (σ : Store) : Prop := SndF Pr F.slices_Index slices_Index.H slices_Index.T K 2 [.v (.slice sA sN sC), .v (.int .i64 v), .v (.int .i64 t7), .v (.int .i64 t8)] [] σ
def slices_Index.b2 (K : Value → Store → Prop) (rr2 : slices_Index.R2) (sA : Option Addr) (sN sC : Nat) (v t7 t8 : Int) (σ : Store) : Prop :=
  cond (decide (t8 < t7))
  (Req (decide (0 ≤ t8) && decide (t8 < ((sN : Nat) : Int))) (
      PtrNN sA fun t14B t14O =>
      ∃ t15 : Int, cellAt σ t14B (t14O + t8.toNat * 1) = some (.int .i64 t15) ∧
      cond (v == t15)
      (K (.int .i64 t8) σ)
      (Hop (slices_Index.T 2) (slices_Index.T 2) (rr2 sA sN sC v t7 (IntKind.wrap .i64 (t8 + 1)) σ))))
  (Hop (slices_Index.T 7) (slices_Index.T 7) (slices_Index.j7 K σ))
def slices_Index.l2 (K : Value → Store → Prop) : Nat → slices_Index.R2
  | 0, _, _, _, _, _, _, _ => False
  | n + 1, sA, sN, sC, v, t7, t8, σ => slices_Index.b2 K (slices_Index.l2 K n) sA sN sC v t7 t8 σ
def slices_Index.m (K : Value → Store → Prop) (sA : Option Addr) (sN sC : Nat) (v : Int) (σ : Store) : Prop :=
  Hop (slices_Index.T 2) (slices_Index.T 2) (∃ n : Nat, slices_Index.l2 K n sA sN sC v ((sN : Nat) : Int) 0 σ)
theorem slices_Index.d7_ok {K : Value → Store → Prop} {g : slices_Index.R7} (hg : ∀ σ, g σ → slices_Index.S7 K σ) (vs : List AV) (bs : List (List Value)) (σ : Store) (h : slices_Index.d7 g vs bs σ) : SndF Pr F.slices_Index slices_Index.H slices_Index.T K 7 vs bs σ := by
  unfold slices_Index.d7 at h
  split at h
  · exact hg _ h
  · exact h.elim
theorem slices_Index.d2_ok {K : Value → Store → Prop} {g : slices_Index.R2} (hg : ∀ sA sN sC v t7 t8 σ, g sA sN sC v t7 t8 σ → slices_Index.S2 K sA sN sC v t7 t8 σ) (vs : List AV) (bs : List (List Value)) (σ : Store) (h : slices_Index.d2 g vs bs σ) : SndF Pr F.slices_Index slices_Index.H slices_Index.T K 2 vs bs σ := by
  unfold slices_Index.d2 at h
  split at h
  · exact hg _ _ _ _ _ _ _ h
  · exact h.elim
noncomputable def slices_Index.h7 (K : Value → Store → Prop) : Hand := hsel []
theorem slices_Index.j7_eq (K : Value → Store → Prop) (σ : Store) : (seg Pr slices_Index.H F.slices_Index slices_Index.T (slices_Index.h7 K ) K (slices_Index.T 7) (Ev.cutE slices_Index.H 7 [] []) σ) = slices_Index.j7 K σ := by kernel_rfl
theorem slices_Index.j7_ok (K : Value → Store → Prop) (σ : Store) (h : slices_Index.j7 K σ) : slices_Index.S7 K σ := by
  rw [← slices_Index.j7_eq] at h
  exact seg_snd Pr_mixed (hsel_sound fun x hx => by
    cases hx) h
noncomputable def slices_Index.h2 (K : Value → Store → Prop) (rr2 : slices_Index.R2) : Hand := hsel [(7, slices_Index.d7 (slices_Index.j7 K )), (2, slices_Index.d2 rr2)]
theorem slices_Index.b2_eq (K : Value → Store → Prop) (rr2 : slices_Index.R2) (sA : Option Addr) (sN sC : Nat) (v t7 t8 : Int) (σ : Store) : (seg Pr slices_Index.H F.slices_Index slices_Index.T (slices_Index.h2 K rr2) K (slices_Index.T 2) (Ev.cutE slices_Index.H 2 [.v (.slice sA sN sC), .v (.int .i64 v), .v (.int .i64 t7), .v (.int .i64 t8)] []) σ) = slices_Index.b2 K rr2 sA sN sC v t7 t8 σ := by kernel_rfl
theorem slices_Index.b2_ok (K : Value → Store → Prop) (rr2 : slices_Index.R2) (hh2 : ∀ sA sN sC v t7 t8 σ, rr2 sA sN sC v t7 t8 σ → slices_Index.S2 K sA sN sC v t7 t8 σ) (sA : Option Addr) (sN sC : Nat) (v t7 t8 : Int) (σ : Store) (h : slices_Index.b2 K rr2 sA sN sC v t7 t8 σ) : slices_Index.S2 K sA sN sC v t7 t8 σ := by
  rw [← slices_Index.b2_eq] at h
  exact seg_snd Pr_mixed (hsel_sound fun x hx => by
    simp only [List.mem_cons, List.not_mem_nil, or_false] at hx
    rcases hx with rfl | rfl
    · exact slices_Index.d7_ok fun _ h => slices_Index.j7_ok K _ h
    · exact slices_Index.d2_ok hh2) h
theorem slices_Index.l2_ok (K : Value → Store → Prop) : ∀ (n : Nat) (sA : Option Addr) (sN sC : Nat) (v t7 t8 : Int) (σ : Store), slices_Index.l2 K n sA sN sC v t7 t8 σ → slices_Index.S2 K sA sN sC v t7 t8 σ
  | 0, _, _, _, _, _, _, _, h => h.elim
  | n + 1, _, _, _, _, _, _, _, h => slices_Index.b2_ok K (slices_Index.l2 K n) (slices_Index.l2_ok K n) _ _ _ _ _ _ _ h
noncomputable def slices_Index.h (K : Value → Store → Prop) : Hand := hsel [(2, slices_Index.d2 fun sA sN sC v t7 t8 σ => ∃ n : Nat, slices_Index.l2 K n sA sN sC v t7 t8 σ)]
theorem slices_Index.m_eq (K : Value → Store → Prop) (sA : Option Addr) (sN sC : Nat) (v : Int) (σ : Store) : (segF Pr slices_Index.H F.slices_Index slices_Index.T (slices_Index.h K) K [.slice sA sN sC, .int .i64 v] σ) = slices_Index.m K sA sN sC v σ := by kernel_rfl
theorem slices_Index.ok {K : Value → Store → Prop} {sA : Option Addr} {sN sC : Nat} {v : Int} {σ : Store} (h : slices_Index.m K sA sN sC v σ) : Spec Pr F.slices_Index [.slice sA sN sC, .int .i64 v] σ K := by
  rw [← slices_Index.m_eq] at h
  exact segF_spec Pr_mixed (hsel_sound fun x hx => by
    simp only [List.mem_cons, List.not_mem_nil, or_false] at hx
    subst hx
    exact slices_Index.d2_ok fun _ _ _ _ _ _ _ ⟨n, h⟩ => slices_Index.l2_ok K n _ _ _ _ _ _ _ h) h

/-! ### math/bits.Len -/
def bits_Len.H : Hints := { esc := [], cuts := [] }
noncomputable def bits_Len.T : Nat → List Item := stk Pr F.bits_Len []
def bits_Len.m (K : Value → Store → Prop) (x : Int) (σ : Store) : Prop :=
  Spec Pr F.bits_Len64 [.int .u64 x] σ fun v σ_ => ∃ t7 : Int, v = .int .i64 t7 ∧
  K (.int .i64 t7) σ_
noncomputable def bits_Len.h (K : Value → Store → Prop) : Hand := hsel []
theorem bits_Len.m_eq (K : Value → Store → Prop) (x : Int) (σ : Store) : (segF Pr bits_Len.H F.bits_Len bits_Len.T (bits_Len.h K) K [.int .u64 x] σ) = bits_Len.m K x σ := by kernel_rfl
theorem bits_Len.ok {K : Value → Store → Prop} {x : Int} {σ : Store} (h : bits_Len.m K x σ) : Spec Pr F.bits_Len [.int .u64 x] σ K := by
  rw [← bits_Len.m_eq] at h
  exact segF_spec Pr_mixed (hsel_sound fun x hx => by
    cases hx) h

/-! ### math/bits.Len64 -/
def bits_Len64.H : Hints := { esc := [], cuts := [(4, [0, 2], []), (7, [0, 2], []), (10, [0, 2], [])] }
noncomputable def bits_Len64.T : Nat → List Item := stk Pr F.bits_Len64 [(4, [1, 1]), (7, [1, 1, 1]), (10, [1, 1, 1, 1])]
abbrev bits_Len64.R10 : Type := Int → Int → Store → Prop
abbrev bits_Len64.R7 : Type := Int → Int → Store → Prop
abbrev bits_Len64.R4 : Type := Int → Int → Store → Prop
def bits_Len64.d10 (g : bits_Len64.R10) : List AV → List (List Value) → Store → Prop
  | [.v (.int .u64 x), .v (.int .i64 n_)], [], σ => g x n_ σ
  | _, _, _ => False
def bits_Len64.S10 (K : Value → Store → Prop) (x n_ : Int) (σ : Store) : Prop := SndF Pr F.bits_Len64 bits_Len64.H bits_Len64.T K 10 [.v (.int .u64 x), .v (.int .i64 n_)] [] σ
def bits_Len64.j10 (K : Value → Store → Prop) (x n_ : Int) (σ : Store) : Prop :=
  Req (decide (0 ≤ (IntKind.wrap .u8 x)) && decide ((IntKind.wrap .u8 x) < (((⟨#[0, 1, 2, 2, 3, 3, 3, 3, 4, 4, 4, 4, 4, 4, 4, 4, 5, 5, 5, 5, 5, 5, 5, 5, 5, 5, 5, 5, 5, 5, 5, 5, 6, 6, 6, 6, 6, 6, 6, 6, 6, 6, 6, 6, 6, 6, 6, 6, 6, 6, 6, 6, 6, 6, 6, 6, 6, 6, 6, 6, 6, 6, 6, 6, 7, 7, 7, 7, 7, 7, 7, 7, 7, 7, 7, 7, 7, 7, 7, 7, 7, 7, 7, 7, 7, 7, 7, 7, 7, 7, 7, 7, 7, 7, 7, 7, 7, 7, 7, 7, 7, 7, 7, 7, 7, 7, 7, 7, 7, 7, 7, 7, 7, 7, 7, 7, 7, 7, 7, 7, 7, 7, 7, 7, 7, 7, 7, 7, 8, 8, 8, 8, 8, 8, 8, 8, 8, 8, 8, 8, 8, 8, 8, 8, 8, 8, 8, 8, 8, 8, 8, 8, 8, 8, 8, 8, 8, 8, 8, 8, 8, 8, 8, 8, 8, 8, 8, 8, 8, 8, 8, 8, 8, 8, 8, 8, 8, 8, 8, 8, 8, 8, 8, 8, 8, 8, 8, 8, 8, 8, 8, 8, 8, 8, 8, 8, 8, 8, 8, 8, 8, 8, 8, 8, 8, 8, 8, 8, 8, 8, 8, 8, 8, 8, 8, 8, 8, 8, 8, 8, 8, 8, 8, 8, 8, 8, 8, 8, 8, 8, 8, 8, 8, 8, 8, 8, 8, 8, 8, 8, 8, 8, 8, 8, 8, 8, 8, 8, 8, 8, 8, 8, 8, 8, 8, 8]⟩ : ByteArray).size : Nat) : Int))) (
    K (.int .i64 (IntKind.wrap .i64 (n_ + (IntKind.wrap .i64 (byteAt (⟨#[0, 1, 2, 2, 3, 3, 3, 3, 4, 4, 4, 4, 4, 4, 4, 4, 5, 5, 5, 5, 5, 5, 5, 5, 5, 5, 5, 5, 5, 5, 5, 5, 6, 6, 6, 6, 6, 6, 6, 6, 6, 6, 6, 6, 6, 6, 6, 6, 6, 6, 6, 6, 6, 6, 6, 6, 6, 6, 6, 6, 6, 6, 6, 6, 7, 7, 7, 7, 7, 7, 7, 7, 7, 7, 7, 7, 7, 7, 7, 7, 7, 7, 7, 7, 7, 7, 7, 7, 7, 7, 7, 7, 7, 7, 7, 7, 7, 7, 7, 7, 7, 7, 7, 7, 7, 7, 7, 7, 7, 7, 7, 7, 7, 7, 7, 7, 7, 7, 7, 7, 7, 7, 7, 7, 7, 7, 7, 7, 8, 8, 8, 8, 8, 8, 8, 8, 8, 8, 8, 8, 8, 8, 8, 8, 8, 8, 8, 8, 8, 8, 8, 8, 8, 8, 8, 8, 8, 8, 8, 8, 8, 8, 8, 8, 8, 8, 8, 8, 8, 8, 8, 8, 8, 8, 8, 8, 8, 8, 8, 8, 8, 8, 8, 8, 8, 8, 8, 8, 8, 8, 8, 8, 8, 8, 8, 8, 8, 8, 8, 8, 8, 8, 8, 8, 8, 8, 8, 8, 8, 8, 8, 8, 8, 8, 8, 8, 8, 8, 8, 8, 8, 8, 8, 8, 8, 8, 8, 8, 8, 8, 8, 8, 8, 8, 8, 8, 8, 8, 8, 8, 8, 8, 8, 8, 8, 8, 8, 8, 8, 8, 8, 8, 8, 8, 8, 8]⟩ : ByteArray) (IntKind.wrap .u8 x).toNat))))) σ)
def bits_Len64.d7 (g : bits_Len64.R7) : List AV → List (List Value) → Store → Prop
  | [.v (.int .u64 x), .v (.int .i64 n_)], [], σ => g x n_ σ
  | _, _, _ => False
def bits_Len64.S7 (K : Value → Store → Prop) (x n_ : Int) (σ : Store) : Prop := SndF Pr F.bits_Len64 bits_Len64.H bits_Len64.T K 7 [.v (.int .u64 x), .v (.int .i64 n_)] [] σ
def bits_Len64.j7 (K : Value → Store → Prop) (x n_ : Int) (σ : Store) : Prop :=
  cond (decide (x ≥ 256))
  (Hop (bits_Len64.T 10) (bits_Len64.T 10) (bits_Len64.j10 K (shrI .u64 x 8) (IntKind.wrap .i64 (n_ + 8)) σ))
  (Hop (bits_Len64.T 10) (bits_Len64.T 10) (bits_Len64.j10 K x n_ σ))
def bits_Len64.d4 (g : bits_Len64.R4) : List AV → List (List Value) → Store → Prop
  | [.v (.int .u64 x), .v (.int .i64 n_)], [], σ => g x n_ σ
  | _, _, _ => False
def bits_Len64.S4 (K : Value → Store → Prop) (x n_ : Int) (σ : Store) : Prop := SndF Pr F.bits_Len64 bits_Len64.H bits_Len64.T K 4 [.v (.int .u64 x), .v (.int .i64 n_)] [] σ
def bits_Len64.j4 (K : Value → Store → Prop) (x n_ : Int) (σ : Store) : Prop :=
  cond (decide (x ≥ 65536))
  (Hop (bits_Len64.T 7) (bits_Len64.T 7) (bits_Len64.j7 K (shrI .u64 x 16) (IntKind.wrap .i64 (n_ + 16)) σ))
  (Hop (bits_Len64.T 7) (bits_Len64.T 7) (bits_Len64.j7 K x n_ σ))
def bits_Len64.m (K : Value → Store → Prop) (x : Int) (σ : Store) : Prop :=
  cond (decide (x ≥ 4294967296))
  (Hop (bits_Len64.T 4) (bits_Len64.T 4) (bits_Len64.j4 K (shrI .u64 x 32) 32 σ))
  (Hop (bits_Len64.T 4) (bits_Len64.T 4) (bits_Len64.j4 K x 0 σ))
theorem bits_Len64.d10_ok {K : Value → Store → Prop} {g : bits_Len64.R10} (hg : ∀ x n_ σ, g x n_ σ → bits_Len64.S10 K x n_ σ) (vs : List AV) (bs : List (List Value)) (σ : Store) (h : bits_Len64.d10 g vs bs σ) : SndF Pr F.bits_Len64 bits_Len64.H bits_Len64.T K 10 vs bs σ := by
  unfold bits_Len64.d10 at h
  split at h
  · exact hg _ _ _ h
  · exact h.elim
theorem bits_Len64.d7_ok {K : Value → Store → Prop} {g : bits_Len64.R7} (hg : ∀ x n_ σ, g x n_ σ → bits_Len64.S7 K x n_ σ) (vs : List AV) (bs : List (List Value)) (σ : Store) (h : bits_Len64.d7 g vs bs σ) : SndF Pr F.bits_Len64 bits_Len64.H bits_Len64.T K 7 vs bs σ := by
  unfold bits_Len64.d7 at h
  split at h
  · exact hg _ _ _ h
  · exact h.elim
theorem bits_Len64.d4_ok {K : Value → Store → Prop} {g : bits_Len64.R4} (hg : ∀ x n_ σ, g x n_ σ → bits_Len64.S4 K x n_ σ) (vs : List AV) (bs : List (List Value)) (σ : Store) (h : bits_Len64.d4 g vs bs σ) : SndF Pr F.bits_Len64 bits_Len64.H bits_Len64.T K 4 vs bs σ := by
  unfold bits_Len64.d4 at h
  split at h
  · exact hg _ _ _ h
  · exact h.elim
noncomputable def bits_Len64.h10 (K : Value → Store → Prop) : Hand := hsel []
theorem bits_Len64.j10_eq (K : Value → Store → Prop) (x n_ : Int) (σ : Store) : (seg Pr bits_Len64.H F.bits_Len64 bits_Len64.T (bits_Len64.h10 K ) K (bits_Len64.T 10) (Ev.cutE bits_Len64.H 10 [.v (.int .u64 x), .v (.int .i64 n_)] []) σ) = bits_Len64.j10 K x n_ σ := by kernel_rfl
theorem bits_Len64.j10_ok (K : Value → Store → Prop) (x n_ : Int) (σ : Store) (h : bits_Len64.j10 K x n_ σ) : bits_Len64.S10 K x n_ σ := by
  rw [← bits_Len64.j10_eq] at h
  exact seg_snd Pr_mixed (hsel_sound fun x hx => by
    cases hx) h
noncomputable def bits_Len64.h7 (K : Value → Store → Prop) : Hand := hsel [(10, bits_Len64.d10 (bits_Len64.j10 K ))]
theorem bits_Len64.j7_eq (K : Value → Store → Prop) (x n_ : Int) (σ : Store) : (seg Pr bits_Len64.H F.bits_Len64 bits_Len64.T (bits_Len64.h7 K ) K (bits_Len64.T 7) (Ev.cutE bits_Len64.H 7 [.v (.int .u64 x), .v (.int .i64 n_)] []) σ) = bits_Len64.j7 K x n_ σ := by kernel_rfl
theorem bits_Len64.j7_ok (K : Value → Store → Prop) (x n_ : Int) (σ : Store) (h : bits_Len64.j7 K x n_ σ) : bits_Len64.S7 K x n_ σ := by
  rw [← bits_Len64.j7_eq] at h
  exact seg_snd Pr_mixed (hsel_sound fun x hx => by
    simp only [List.mem_cons, List.not_mem_nil, or_false] at hx
    subst hx
    exact bits_Len64.d10_ok fun _ _ _ h => bits_Len64.j10_ok K _ _ _ h) h
noncomputable def bits_Len64.h4 (K : Value → Store → Prop) : Hand := hsel [(7, bits_Len64.d7 (bits_Len64.j7 K ))]
theorem bits_Len64.j4_eq (K : Value → Store → Prop) (x n_ : Int) (σ : Store) : (seg Pr bits_Len64.H F.bits_Len64 bits_Len64.T (bits_Len64.h4 K ) K (bits_Len64.T 4) (Ev.cutE bits_Len64.H 4 [.v (.int .u64 x), .v (.int .i64 n_)] []) σ) = bits_Len64.j4 K x n_ σ := by kernel_rfl
theorem bits_Len64.j4_ok (K : Value → Store → Prop) (x n_ : Int) (σ : Store) (h : bits_Len64.j4 K x n_ σ) : bits_Len64.S4 K x n_ σ := by
  rw [← bits_Len64.j4_eq] at h
  exact seg_snd Pr_mixed (hsel_sound fun x hx => by
    simp only [List.mem_cons, List.not_mem_nil, or_false] at hx
    subst hx
    exact bits_Len64.d7_ok fun _ _ _ h => bits_Len64.j7_ok K _ _ _ h) h
noncomputable def bits_Len64.h (K : Value → Store → Prop) : Hand := hsel [(4, bits_Len64.d4 (bits_Len64.j4 K ))]
theorem bits_Len64.m_eq (K : Value → Store → Prop) (x : Int) (σ : Store) : (segF Pr bits_Len64.H F.bits_Len64 bits_Len64.T (bits_Len64.h K) K [.int .u64 x] σ) = bits_Len64.m K x σ := by kernel_rfl
theorem bits_Len64.ok {K : Value → Store → Prop} {x : Int} {σ : Store} (h : bits_Len64.m K x σ) : Spec Pr F.bits_Len64 [.int .u64 x] σ K := by
  rw [← bits_Len64.m_eq] at h
  exact segF_spec Pr_mixed (hsel_sound fun x hx => by
    simp only [List.mem_cons, List.not_mem_nil, or_false] at hx
    subst hx
    exact bits_Len64.d4_ok fun _ _ _ h => bits_Len64.j4_ok K _ _ _ h) h

/-! ### slices.SortFunc[[]corral/cache.Entry,corral/cache.Entry] -/
def slices_SortFunc.H : Hints := { esc := [], cuts := [] }
noncomputable def slices_SortFunc.T : Nat → List Item := stk Pr F.slices_SortFunc []
def slices_SortFunc.m (K : Value → Store → Prop) (xA : Option Addr) (xN xC : Nat) (σ : Store) : Prop :=
  Spec Pr F.bits_Len [.int .u64 (IntKind.wrap .u64 ((xN : Nat) : Int))] σ fun v σ_ => ∃ t11 : Int, v = .int .i64 t11 ∧
  Spec Pr F.slices_pdqsortCmpFunc [.slice xA xN xC, .int .i64 0, .int .i64 ((xN : Nat) : Int), .int .i64 t11, .func (.func F.cache_Cache_All_1) #[] #[]] σ_ fun v1 σ_1 => v1 = .tuple #[] ∧
  K (.tuple #[]) σ_1
noncomputable def slices_SortFunc.h (K : Value → Store → Prop) : Hand := hsel []
theorem slices_SortFunc.m_eq (K : Value → Store → Prop) (xA : Option Addr) (xN xC : Nat) (σ : Store) : (segF Pr slices_SortFunc.H F.slices_SortFunc slices_SortFunc.T (slices_SortFunc.h K) K [.slice xA xN xC, .func (.func F.cache_Cache_All_1) #[] #[]] σ) = slices_SortFunc.m K xA xN xC σ := by kernel_rfl
theorem slices_SortFunc.ok {K : Value → Store → Prop} {xA : Option Addr} {xN xC : Nat} {σ : Store} (h : slices_SortFunc.m K xA xN xC σ) : Spec Pr F.slices_SortFunc [.slice xA xN xC, .func (.func F.cache_Cache_All_1) #[] #[]] σ K := by
  rw [← slices_SortFunc.m_eq] at h
  exact segF_spec Pr_mixed (hsel_sound fun x hx => by
    cases hx) h

/-! ### slices.pdqsortCmpFunc[corral/cache.Entry] -/
def slices_pdqsortCmpFunc.H : Hints := { esc := [], cuts := [(2, [0, 1, 2, 3, 4, 10, 11], []), (10, [0, 1, 2, 3, 4, 10, 11, 12], []), (15, [0, 1, 2, 3, 4, 10, 11, 12, 13, 14], []), (16, [0, 1, 2, 3, 4, 10, 11, 12, 13, 75], []), (17, [0, 1, 2, 3, 4, 10, 11, 12, 13], []), (18, [0, 1, 2, 3, 4, 10, 11, 12, 13, 97], []), (20, [0, 1, 2, 3, 4, 12, 13], [])] }
noncomputable def slices_pdqsortCmpFunc.T : Nat → List Item := stk Pr F.slices_pdqsortCmpFunc [(2, [1, 1, 0, 0]), (10, [1, 1, 0, 0, 0, 1, 1, 1, 1]), (15, [1, 1, 0, 0, 0, 1, 1, 1, 1, 1, 1]), (16, [1, 1, 0, 0, 0, 1, 1, 1, 1, 1, 1, 0, 1]), (17, [1, 1, 0, 0, 0, 1, 1, 1, 1, 1, 1, 1]), (18, [1, 1, 0, 0, 0, 1, 1, 1, 1, 1, 1, 1, 0, 1]), (20, [1, 1, 0, 0, 0, 1, 1, 1, 1, 1, 1, 1, 1])]
abbrev slices_pdqsortCmpFunc.R20 : Type := Option Addr → Nat → Nat → Int → Int → Int → Int → Int → Store → Prop
abbrev slices_pdqsortCmpFunc.R18 : Type := Option Addr → Nat → Nat → Int → Int → Int → Bool → Bool → Int → Int → Bool → Store → Prop
abbrev slices_pdqsortCmpFunc.R17 : Type := Option Addr → Nat → Nat → Int → Int → Int → Bool → Bool → Int → Int → Store → Prop
abbrev slices_pdqsortCmpFunc.R16 : Type := Option Addr → Nat → Nat → Int → Int → Int → Bool → Bool → Int → Int → Bool → Store → Prop
abbrev slices_pdqsortCmpFunc.R15 : Type := Option Addr → Nat → Nat → Int → Int → Int → Bool → Bool → Int → Int → Int → Store → Prop
abbrev slices_pdqsortCmpFunc.R10 : Type := Option Addr → Nat → Nat → Int → Int → Int → Bool → Bool → Int → Store → Prop
abbrev slices_pdqsortCmpFunc.R2 : Type := Option Addr → Nat → Nat → Int → Int → Int → Bool → Bool → Store → Prop
def slices_pdqsortCmpFunc.d20 (g : slices_pdqsortCmpFunc.R20) : List AV → List (List Value) → Store → Prop
  | [.v (.slice dataA dataN dataC), .v (.int .i64 a), .v (.int .i64 b), .v (.int .i64 limit), .v (.func (.func 66) ⟨[]⟩ ⟨[]⟩), .v (.int .i64 length), .v (.int .i64 pivot)], [], σ => g dataA dataN dataC a b limit length pivot σ
  | _, _, _ => False
def slices_pdqsortCmpFunc.S20 (K : Value → Store → Prop) (dataA : Option Addr) (dataN dataC : Nat) (a b limit length pivot : Int) (σ : Store) : Prop := SndF Pr F.slices_pdqsortCmpFunc slices_pdqsortCmpFunc.H slices_pdqsortCmpFunc.T K 20 [.v (.slice dataA dataN dataC), .v (.int .i64 a), .v (.int .i64 b), .v (.int .i64 limit), .v (.func (.func F.cache_Cache_All_1) #[] #[]), .v (.int .i64 length), .v (.int .i64 pivot)] [] σ
def slices_pdqsortCmpFunc.j20 (K : Value → Store → Prop) (rr2 : slices_pdqsortCmpFunc.R2) (dataA : Option Addr) (dataN dataC : Nat) (a b limit length pivot : Int) (σ : Store) : Prop :=
  Spec Pr F.slices_partitionCmpFunc [.slice dataA dataN dataC, .int .i64 a, .int .i64 b, .int .i64 pivot, .func (.func F.cache_Cache_All_1) #[] #[]] σ fun v σ_ => ∃ t111a : Int, ∃ t111b : Bool, v = .tuple #[.int .i64 t111a, .bool t111b] ∧
  cond (decide ((IntKind.wrap .i64 (t111a - a)) < (IntKind.wrap .i64 (b - t111a))))
  (Spec Pr F.slices_pdqsortCmpFunc [.slice dataA dataN dataC, .int .i64 a, .int .i64 t111a, .int .i64 limit, .func (.func F.cache_Cache_All_1) #[] #[]] σ_ fun v1 σ_1 => v1 = .tuple #[] ∧
    Hop (slices_pdqsortCmpFunc.T 2) (slices_pdqsortCmpFunc.T 2) (rr2 dataA dataN dataC (IntKind.wrap .i64 (t111a + 1)) b limit (decide ((IntKind.wrap .i64 (t111a - a)) ≥ (quoI .i64 length 8))) t111b σ_1))
  (Spec Pr F.slices_pdqsortCmpFunc [.slice dataA dataN dataC, .int .i64 (IntKind.wrap .i64 (t111a + 1)), .int .i64 b, .int .i64 limit, .func (.func F.cache_Cache_All_1) #[] #[]] σ_ fun v2 σ_2 => v2 = .tuple #[] ∧
    Hop (slices_pdqsortCmpFunc.T 2) (slices_pdqsortCmpFunc.T 2) (rr2 dataA dataN dataC a t111a limit (decide ((IntKind.wrap .i64 (b - t111a)) ≥ (quoI .i64 length 8))) t111b σ_2))
def slices_pdqsortCmpFunc.d18 (g : slices_pdqsortCmpFunc.R18) : List AV → List (List Value) → Store → Prop
  | [.v (.slice dataA dataN dataC), .v (.int .i64 a), .v (.int .i64 b), .v (.int .i64 limit), .v (.func (.func 66) ⟨[]⟩ ⟨[]⟩), .v (.bool wasBalanced), .v (.bool wasPartitioned), .v (.int .i64 length), .v (.int .i64 pivot), .v (.bool t97)], [], σ => g dataA dataN dataC a b limit wasBalanced wasPartitioned length pivot t97 σ
  | _, _, _ => False
def slices_pdqsortCmpFunc.S18 (K : Value → Store → Prop) (dataA : Option Addr) (dataN dataC : Nat) (a b limit : Int) (wasBalanced wasPartitioned : Bool) (length pivot : Int) (t97 : Bool) (σ : Store) : Prop := SndF Pr F.slices_pdqsortCmpFunc slices_pdqsortCmpFunc.H slices_pdqsortCmpFunc.T K 18 [.v (.slice dataA dataN dataC), .v (.int .i64 a), .v (.int .i64 b), .v (.int .i64 limit), .v (.func (.func F.cache_Cache_All_1) #[] #[]), .v (.bool wasBalanced), .v (.bool wasPartitioned), .v (.int .i64 length), .v (.int .i64 pivot), .v (.bool t97)] [] σ
def slices_pdqsortCmpFunc.j18 (K : Value → Store → Prop) (rr2 : slices_pdqsortCmpFunc.R2) (dataA : Option Addr) (dataN dataC : Nat) (a b limit : Int) (wasBalanced wasPartitioned : Bool) (length pivot : Int) (t97 : Bool) (σ : Store) : Prop :=
  cond t97
  (Spec Pr F.slices_partitionEqualCmpFunc [.slice dataA dataN dataC, .int .i64 a, .int .i64 b, .int .i64 pivot, .func (.func F.cache_Cache_All_1) #[] #[]] σ fun v σ_ => ∃ t103 : Int, v = .int .i64 t103 ∧
    Hop (slices_pdqsortCmpFunc.T 2) (slices_pdqsortCmpFunc.T 2) (rr2 dataA dataN dataC t103 b limit wasBalanced wasPartitioned σ_))
  (Hop (slices_pdqsortCmpFunc.T 20) (slices_pdqsortCmpFunc.T 20) (slices_pdqsortCmpFunc.j20 K rr2 dataA dataN dataC a b limit length pivot σ))
def slices_pdqsortCmpFunc.d17 (g : slices_pdqsortCmpFunc.R17) : List AV → List (List Value) → Store → Prop
  | [.v (.slice dataA dataN dataC), .v (.int .i64 a), .v (.int .i64 b), .v (.int .i64 limit), .v (.func (.func 66) ⟨[]⟩ ⟨[]⟩), .v (.bool wasBalanced), .v (.bool wasPartitioned), .v (.int .i64 length), .v (.int .i64 pivot)], [], σ => g dataA dataN dataC a b limit wasBalanced wasPartitioned length pivot σ
  | _, _, _ => False
def slices_pdqsortCmpFunc.S17 (K : Value → Store → Prop) (dataA : Option Addr) (dataN dataC : Nat) (a b limit : Int) (wasBalanced wasPartitioned : Bool) (length pivot : Int) (σ : Store) : Prop := SndF Pr F.slices_pdqsortCmpFunc slices_pdqsortCmpFunc.H slices_pdqsortCmpFunc.T K 17 [.v (.slice dataA dataN dataC), .v (.int .i64 a), .v (.int .i64 b), .v (.int .i64 limit), .v (.func (.func F.cache_Cache_All_1) #[] #[]), .v (.bool wasBalanced), .v (.bool wasPartitioned), .v (.int .i64 length), .v (.int .i64 pivot)] [] σ
def slices_pdqsortCmpFunc.j17 (K : Value → Store → Prop) (rr2 : slices_pdqsortCmpFunc.R2) (dataA : Option Addr) (dataN dataC : Nat) (a b limit : Int) (wasBalanced wasPartitioned : Bool) (length pivot : Int) (σ : Store) : Prop :=
  cond (decide (a > 0))
  (Req (decide (0 ≤ (IntKind.wrap .i64 (a - 1))) && decide ((IntKind.wrap .i64 (a - 1)) < ((dataN : Nat) : Int))) (
      PtrNN dataA fun t88B t88O =>
      ∃ t890 : Int, ∃ t891 : Int, ∃ t892 : Int, ∃ t893 : Int, ∃ t894 : Int, ∃ t895 : Int, cellsAt σ t88B (t88O + (IntKind.wrap .i64 (a - 1)).toNat * 6) 6 = some [.int .i64 t890, .int .i64 t891, .int .u32 t892, .int .u32 t893, .int .u32 t894, .int .u32 t895] ∧
      Req (decide (0 ≤ pivot) && decide (pivot < ((dataN : Nat) : Int))) (
        PtrNN dataA fun t92B t92O =>
        ∃ t930 : Int, ∃ t931 : Int, ∃ t932 : Int, ∃ t933 : Int, ∃ t934 : Int, ∃ t935 : Int, cellsAt σ t92B (t92O + pivot.toNat * 6) 6 = some [.int .i64 t930, .int .i64 t931, .int .u32 t932, .int .u32 t933, .int .u32 t934, .int .u32 t935] ∧
        Spec Pr F.cache_Cache_All_1 [.agg #[.int .i64 t890, .int .i64 t891, .int .u32 t892, .int .u32 t893, .int .u32 t894, .int .u32 t895], .agg #[.int .i64 t930, .int .i64 t931, .int .u32 t932, .int .u32 t933, .int .u32 t934, .int .u32 t935]] σ fun v σ_ => ∃ t94 : Int, v = .int .i64 t94 ∧
        Hop (slices_pdqsortCmpFunc.T 18) (slices_pdqsortCmpFunc.T 18) (slices_pdqsortCmpFunc.j18 K rr2 dataA dataN dataC a b limit wasBalanced wasPartitioned length pivot (!(decide (t94 < 0))) σ_))))
  (Hop (slices_pdqsortCmpFunc.T 18) (slices_pdqsortCmpFunc.T 18) (slices_pdqsortCmpFunc.j18 K rr2 dataA dataN dataC a b limit wasBalanced wasPartitioned length pivot false σ))
def slices_pdqsortCmpFunc.d16 (g : slices_pdqsortCmpFunc.R16) : List AV → List (List Value) → Store → Prop
  | [.v (.slice dataA dataN dataC), .v (.int .i64 a), .v (.int .i64 b), .v (.int .i64 limit), .v (.func (.func 66) ⟨[]⟩ ⟨[]⟩), .v (.bool wasBalanced), .v (.bool wasPartitioned), .v (.int .i64 length), .v (.int .i64 pivot), .v (.bool t75)], [], σ => g dataA dataN dataC a b limit wasBalanced wasPartitioned length pivot t75 σ
  | _, _, _ => False
def slices_pdqsortCmpFunc.S16 (K : Value → Store → Prop) (dataA : Option Addr) (dataN dataC : Nat) (a b limit : Int) (wasBalanced wasPartitioned : Bool) (length pivot : Int) (t75 : Bool) (σ : Store) : Prop := SndF Pr F.slices_pdqsortCmpFunc slices_pdqsortCmpFunc.H slices_pdqsortCmpFunc.T K 16 [.v (.slice dataA dataN dataC), .v (.int .i64 a), .v (.int .i64 b), .v (.int .i64 limit), .v (.func (.func F.cache_Cache_All_1) #[] #[]), .v (.bool wasBalanced), .v (.bool wasPartitioned), .v (.int .i64 length), .v (.int .i64 pivot), .v (.bool t75)] [] σ
def slices_pdqsortCmpFunc.j16 (K : Value → Store → Prop) (rr2 : slices_pdqsortCmpFunc.R2) (dataA : Option Addr) (dataN dataC : Nat) (a b limit : Int) (wasBalanced wasPartitioned : Bool) (length pivot : Int) (t75 : Bool) (σ : Store) : Prop :=
  cond t75
  (Spec Pr F.slices_partialInsertionSortCmpFunc [.slice dataA dataN dataC, .int .i64 a, .int .i64 b, .func (.func F.cache_Cache_All_1) #[] #[]] σ fun v σ_ => ∃ t80 : Bool, v = .bool t80 ∧
    cond t80
    (K (.tuple #[]) σ_)
    (Hop (slices_pdqsortCmpFunc.T 17) (slices_pdqsortCmpFunc.T 17) (slices_pdqsortCmpFunc.j17 K rr2 dataA dataN dataC a b limit wasBalanced wasPartitioned length pivot σ_)))
  (Hop (slices_pdqsortCmpFunc.T 17) (slices_pdqsortCmpFunc.T 17) (slices_pdqsortCmpFunc.j17 K rr2 dataA dataN dataC a b limit wasBalanced wasPartitioned length pivot σ))
def slices_pdqsortCmpFunc.d15 (g : slices_pdqsortCmpFunc.R15) : List AV → List (List Value) → Store → Prop
  | [.v (.slice dataA dataN dataC), .v (.int .i64 a), .v (.int .i64 b), .v (.int .i64 limit), .v (.func (.func 66) ⟨[]⟩ ⟨[]⟩), .v (.bool wasBalanced), .v (.bool wasPartitioned), .v (.int .i64 length), .v (.int .i64 pivot), .v (.int .i64 hint)], [], σ => g dataA dataN dataC a b limit wasBalanced wasPartitioned length pivot hint σ
  | _, _, _ => False
def slices_pdqsortCmpFunc.S15 (K : Value → Store → Prop) (dataA : Option Addr) (dataN dataC : Nat) (a b limit : Int) (wasBalanced wasPartitioned : Bool) (length pivot hint : Int) (σ : Store) : Prop := SndF Pr F.slices_pdqsortCmpFunc slices_pdqsortCmpFunc.H slices_pdqsortCmpFunc.T K 15 [.v (.slice dataA dataN dataC), .v (.int .i64 a), .v (.int .i64 b), .v (.int .i64 limit), .v (.func (.func F.cache_Cache_All_1) #[] #[]), .v (.bool wasBalanced), .v (.bool wasPartitioned), .v (.int .i64 length), .v (.int .i64 pivot), .v (.int .i64 hint)] [] σ
def slices_pdqsortCmpFunc.j15 (K : Value → Store → Prop) (rr2 : slices_pdqsortCmpFunc.R2) (dataA : Option Addr) (dataN dataC : Nat) (a b limit : Int) (wasBalanced wasPartitioned : Bool) (length pivot hint : Int) (σ : Store) : Prop :=
  cond wasBalanced
  (cond wasPartitioned
    (Hop (slices_pdqsortCmpFunc.T 16) (slices_pdqsortCmpFunc.T 16) (slices_pdqsortCmpFunc.j16 K rr2 dataA dataN dataC a b limit wasBalanced wasPartitioned length pivot (hint == 1) σ))
    (Hop (slices_pdqsortCmpFunc.T 16) (slices_pdqsortCmpFunc.T 16) (slices_pdqsortCmpFunc.j16 K rr2 dataA dataN dataC a b limit wasBalanced wasPartitioned length pivot false σ)))
  (Hop (slices_pdqsortCmpFunc.T 16) (slices_pdqsortCmpFunc.T 16) (slices_pdqsortCmpFunc.j16 K rr2 dataA dataN dataC a b limit wasBalanced wasPartitioned length pivot false σ))
def slices_pdqsortCmpFunc.d10 (g : slices_pdqsortCmpFunc.R10) : List AV → List (List Value) → Store → Prop
  | [.v (.slice dataA dataN dataC), .v (.int .i64 a), .v (.int .i64 b), .v (.int .i64 limit), .v (.func (.func 66) ⟨[]⟩ ⟨[]⟩), .v (.bool wasBalanced), .v (.bool wasPartitioned), .v (.int .i64 length)], [], σ => g dataA dataN dataC a b limit wasBalanced wasPartitioned length σ
  | _, _, _ => False
def slices_pdqsortCmpFunc.S10 (K : Value → Store → Prop) (dataA : Option Addr) (dataN dataC : Nat) (a b limit : Int) (wasBalanced wasPartitioned : Bool) (length : Int) (σ : Store) : Prop := SndF Pr F.slices_pdqsortCmpFunc slices_pdqsortCmpFunc.H slices_pdqsortCmpFunc.T K 10 [.v (.slice dataA dataN dataC), .v (.int .i64 a), .v (.int .i64 b), .v (.int .i64 limit), .v (.func (.func F.cache_Cache_All_1) #[] #[]), .v (.bool wasBalanced), .v (.bool wasPartitioned), .v (.int .i64 length)] [] σ
def slices_pdqsortCmpFunc.j10 (K : Value → Store → Prop) (rr2 : slices_pdqsortCmpFunc.R2) (dataA : Option Addr) (dataN dataC : Nat) (a b limit : Int) (wasBalanced wasPartitioned : Bool) (length : Int) (σ : Store) : Prop :=
  Spec Pr F.slices_choosePivotCmpFunc [.slice dataA dataN dataC, .int .i64 a, .int .i64 b, .func (.func F.cache_Cache_All_1) #[] #[]] σ fun v σ_ => ∃ t52a : Int, ∃ t52b : Int, v = .tuple #[.int .i64 t52a, .int .i64 t52b] ∧
  cond (t52b == 2)
  (Spec Pr F.slices_reverseRangeCmpFunc [.slice dataA dataN dataC, .int .i64 a, .int .i64 b, .func (.func F.cache_Cache_All_1) #[] #[]] σ_ fun v1 σ_1 => v1 = .tuple #[] ∧
    Hop (slices_pdqsortCmpFunc.T 15) (slices_pdqsortCmpFunc.T 15) (slices_pdqsortCmpFunc.j15 K rr2 dataA dataN dataC a b limit wasBalanced wasPartitioned length (IntKind.wrap .i64 ((IntKind.wrap .i64 (b - 1)) - (IntKind.wrap .i64 (t52a - a)))) 1 σ_1))
  (Hop (slices_pdqsortCmpFunc.T 15) (slices_pdqsortCmpFunc.T 15) (slices_pdqsortCmpFunc.j15 K rr2 dataA dataN dataC a b limit wasBalanced wasPartitioned length t52a t52b σ_))
def slices_pdqsortCmpFunc.d2 (g : slices_pdqsortCmpFunc.R2) : List AV → List (List Value) → Store → Prop
  | [.v (.slice dataA dataN dataC), .v (.int .i64 a), .v (.int .i64 b), .v (.int .i64 limit), .v (.func (.func 66) ⟨[]⟩ ⟨[]⟩), .v (.bool wasBalanced), .v (.bool wasPartitioned)], [], σ => g dataA dataN dataC a b limit wasBalanced wasPartitioned σ
  | _, _, _ => False
def slices_pdqsortCmpFunc.S2 (K : Value → Store → Prop) (dataA : Option Addr) (dataN dataC : Nat) (a b limit : Int) (wasBalanced wasPartitioned : Bool) (σ : Store) : Prop := SndF Pr F.slices_pdqsortCmpFunc slices_pdqsortCmpFunc.H slices_pdqsortCmpFunc.T K 2 [.v (.slice dataA dataN dataC), .v (.int .i64 a), .v (.int .i64 b), .v (.int .i64 limit), .v (.func (.func F.cache_Cache_All_1) #[] #[]), .v (.bool wasBalanced), .v (.bool wasPartitioned)] [] σ
def slices_pdqsortCmpFunc.b2 (K : Value → Store → Prop) (rr2 : slices_pdqsortCmpFunc.R2) (dataA : Option Addr) (dataN dataC : Nat) (a b limit : Int) (wasBalanced wasPartitioned : Bool) (σ : Store) : Prop :=
  cond (decide ((IntKind.wrap .i64 (b - a)) ≤ 12))
  (Spec Pr F.slices_insertionSortCmpFunc [.slice dataA dataN dataC, .int .i64 a, .int .i64 b, .func (.func F.cache_Cache_All_1) #[] #[]] σ fun v σ_ => v = .tuple #[] ∧
    K (.tuple #[]) σ_)
  (cond (limit == 0)
    (Spec Pr F.slices_heapSortCmpFunc [.slice dataA dataN dataC, .int .i64 a, .int .i64 b, .func (.func F.cache_Cache_All_1) #[] #[]] σ fun v1 σ_1 => v1 = .tuple #[] ∧
      K (.tuple #[]) σ_1)
    (cond (!wasBalanced)
      (Spec Pr F.slices_breakPatternsCmpFunc [.slice dataA dataN dataC, .int .i64 a, .int .i64 b, .func (.func F.cache_Cache_All_1) #[] #[]] σ fun v2 σ_2 => v2 = .tuple #[] ∧
        Hop (slices_pdqsortCmpFunc.T 10) (slices_pdqsortCmpFunc.T 10) (slices_pdqsortCmpFunc.j10 K rr2 dataA dataN dataC a b (IntKind.wrap .i64 (limit - 1)) wasBalanced wasPartitioned (IntKind.wrap .i64 (b - a)) σ_2))
      (Hop (slices_pdqsortCmpFunc.T 10) (slices_pdqsortCmpFunc.T 10) (slices_pdqsortCmpFunc.j10 K rr2 dataA dataN dataC a b limit wasBalanced wasPartitioned (IntKind.wrap .i64 (b - a)) σ))))
def slices_pdqsortCmpFunc.l2 (K : Value → Store → Prop) : Nat → slices_pdqsortCmpFunc.R2
  | 0, _, _, _, _, _, _, _, _, _ => False
  | n + 1, dataA, dataN, dataC, a, b, limit, wasBalanced, wasPartitioned, σ => slices_pdqsortCmpFunc.b2 K (slices_pdqsortCmpFunc.l2 K n) dataA dataN dataC a b limit wasBalanced wasPartitioned σ
def slices_pdqsortCmpFunc.m (K : Value → Store → Prop) (dataA : Option Addr) (dataN dataC : Nat) (a b limit : Int) (σ : Store) : Prop :=
  Hop (slices_pdqsortCmpFunc.T 2) (slices_pdqsortCmpFunc.T 2) (∃ n : Nat, slices_pdqsortCmpFunc.l2 K n dataA dataN dataC a b limit true true σ)
theorem slices_pdqsortCmpFunc.d20_ok {K : Value → Store → Prop} {g : slices_pdqsortCmpFunc.R20} (hg : ∀ dataA dataN dataC a b limit length pivot σ, g dataA dataN dataC a b limit length pivot σ → slices_pdqsortCmpFunc.S20 K dataA dataN dataC a b limit length pivot σ) (vs : List AV) (bs : List (List Value)) (σ : Store) (h : slices_pdqsortCmpFunc.d20 g vs bs σ) : SndF Pr F.slices_pdqsortCmpFunc slices_pdqsortCmpFunc.H slices_pdqsortCmpFunc.T K 20 vs bs σ := by
  unfold slices_pdqsortCmpFunc.d20 at h
  split at h
  · exact hg _ _ _ _ _ _ _ _ _ h
  · exact h.elim
theorem slices_pdqsortCmpFunc.d18_ok {K : Value → Store → Prop} {g : slices_pdqsortCmpFunc.R18} (hg : ∀ dataA dataN dataC a b limit wasBalanced wasPartitioned length pivot t97 σ, g dataA dataN dataC a b limit wasBalanced wasPartitioned length pivot t97 σ → slices_pdqsortCmpFunc.S18 K dataA dataN dataC a b limit wasBalanced wasPartitioned length pivot t97 σ) (vs : List AV) (bs : List (List Value)) (σ : Store) (h : slices_pdqsortCmpFunc.d18 g vs bs σ) : SndF Pr F.slices_pdqsortCmpFunc slices_pdqsortCmpFunc.H slices_pdqsortCmpFunc.T K 18 vs bs σ := by
  unfold slices_pdqsortCmpFunc.d18 at h
  split at h
  · exact hg _ _ _ _ _ _ _ _ _ _ _ _ h
  · exact h.elim
theorem slices_pdqsortCmpFunc.d17_ok {K : Value → Store → Prop} {g : slices_pdqsortCmpFunc.R17} (hg : ∀ dataA dataN dataC a b limit wasBalanced wasPartitioned length pivot σ, g dataA dataN dataC a b limit wasBalanced wasPartitioned length pivot σ → slices_pdqsortCmpFunc.S17 K dataA dataN dataC a b limit wasBalanced wasPartitioned length pivot σ) (vs : List AV) (bs : List (List Value)) (σ : Store) (h : slices_pdqsortCmpFunc.d17 g vs bs σ) : SndF Pr F.slices_pdqsortCmpFunc slices_pdqsortCmpFunc.H slices_pdqsortCmpFunc.T K 17 vs bs σ := by
  unfold slices_pdqsortCmpFunc.d17 at h
  split at h
  · exact hg _ _ _ _ _ _ _ _ _ _ _ h
  · exact h.elim
theorem slices_pdqsortCmpFunc.d16_ok {K : Value → Store → Prop} {g : slices_pdqsortCmpFunc.R16} (hg : ∀ dataA dataN dataC a b limit wasBalanced wasPartitioned length pivot t75 σ, g dataA dataN dataC a b limit wasBalanced wasPartitioned length pivot t75 σ → slices_pdqsortCmpFunc.S16 K dataA dataN dataC a b limit wasBalanced wasPartitioned length pivot t75 σ) (vs : List AV) (bs : List (List Value)) (σ : Store) (h : slices_pdqsortCmpFunc.d16 g vs bs σ) : SndF Pr F.slices_pdqsortCmpFunc slices_pdqsortCmpFunc.H slices_pdqsortCmpFunc.T K 16 vs bs σ := by
  unfold slices_pdqsortCmpFunc.d16 at h
  split at h
  · exact hg _ _ _ _ _ _ _ _ _ _ _ _ h
  · exact h.elim
theorem slices_pdqsortCmpFunc.d15_ok {K : Value → Store → Prop} {g : slices_pdqsortCmpFunc.R15} (hg : ∀ dataA dataN dataC a b limit wasBalanced wasPartitioned length pivot hint σ, g dataA dataN dataC a b limit wasBalanced wasPartitioned length pivot hint σ → slices_pdqsortCmpFunc.S15 K dataA dataN dataC a b limit wasBalanced wasPartitioned length pivot hint σ) (vs : List AV) (bs : List (List Value)) (σ : Store) (h : slices_pdqsortCmpFunc.d15 g vs bs σ) : SndF Pr F.slices_pdqsortCmpFunc slices_pdqsortCmpFunc.H slices_pdqsortCmpFunc.T K 15 vs bs σ := by
  unfold slices_pdqsortCmpFunc.d15 at h
  split at h
  · exact hg _ _ _ _ _ _ _ _ _ _ _ _ h
  · exact h.elim
theorem slices_pdqsortCmpFunc.d10_ok {K : Value → Store → Prop} {g : slices_pdqsortCmpFunc.R10} (hg : ∀ dataA dataN dataC a b limit wasBalanced wasPartitioned length σ, g dataA dataN dataC a b limit wasBalanced wasPartitioned length σ → slices_pdqsortCmpFunc.S10 K dataA dataN dataC a b limit wasBalanced wasPartitioned length σ) (vs : List AV) (bs : List (List Value)) (σ : Store) (h : slices_pdqsortCmpFunc.d10 g vs bs σ) : SndF Pr F.slices_pdqsortCmpFunc slices_pdqsortCmpFunc.H slices_pdqsortCmpFunc.T K 10 vs bs σ := by
  unfold slices_pdqsortCmpFunc.d10 at h
  split at h
  · exact hg _ _ _ _ _ _ _ _ _ _ h
  · exact h.elim
theorem slices_pdqsortCmpFunc.d2_ok {K : Value → Store → Prop} {g : slices_pdqsortCmpFunc.R2} (hg : ∀ dataA dataN dataC a b limit wasBalanced wasPartitioned σ, g dataA dataN dataC a b limit wasBalanced wasPartitioned σ → slices_pdqsortCmpFunc.S2 K dataA dataN dataC a b limit wasBalanced wasPartitioned σ) (vs : List AV) (bs : List (List Value)) (σ : Store) (h : slices_pdqsortCmpFunc.d2 g vs bs σ) : SndF Pr F.slices_pdqsortCmpFunc slices_pdqsortCmpFunc.H slices_pdqsortCmpFunc.T K 2 vs bs σ := by
  unfold slices_pdqsortCmpFunc.d2 at h
  split at h
  · exact hg _ _ _ _ _ _ _ _ _ h
  · exact h.elim
noncomputable def slices_pdqsortCmpFunc.h20 (K : Value → Store → Prop) (rr2 : slices_pdqsortCmpFunc.R2) : Hand := hsel [(2, slices_pdqsortCmpFunc.d2 rr2)]
theorem slices_pdqsortCmpFunc.j20_eq (K : Value → Store → Prop) (rr2 : slices_pdqsortCmpFunc.R2) (dataA : Option Addr) (dataN dataC : Nat) (a b limit length pivot : Int) (σ : Store) : (seg Pr slices_pdqsortCmpFunc.H F.slices_pdqsortCmpFunc slices_pdqsortCmpFunc.T (slices_pdqsortCmpFunc.h20 K rr2) K (slices_pdqsortCmpFunc.T 20) (Ev.cutE slices_pdqsortCmpFunc.H 20 [.v (.slice dataA dataN dataC), .v (.int .i64 a), .v (.int .i64 b), .v (.int .i64 limit), .v (.func (.func F.cache_Cache_All_1) #[] #[]), .v (.int .i64 length), .v (.int .i64 pivot)] []) σ) = slices_pdqsortCmpFunc.j20 K rr2 dataA dataN dataC a b limit length pivot σ := by kernel_rfl
theorem slices_pdqsortCmpFunc.j20_ok (K : Value → Store → Prop) (rr2 : slices_pdqsortCmpFunc.R2) (hh2 : ∀ dataA dataN dataC a b limit wasBalanced wasPartitioned σ, rr2 dataA dataN dataC a b limit wasBalanced wasPartitioned σ → slices_pdqsortCmpFunc.S2 K dataA dataN dataC a b limit wasBalanced wasPartitioned σ) (dataA : Option Addr) (dataN dataC : Nat) (a b limit length pivot : Int) (σ : Store) (h : slices_pdqsortCmpFunc.j20 K rr2 dataA dataN dataC a b limit length pivot σ) : slices_pdqsortCmpFunc.S20 K dataA dataN dataC a b limit length pivot σ := by
  rw [← slices_pdqsortCmpFunc.j20_eq] at h
  exact seg_snd Pr_mixed (hsel_sound fun x hx => by
    simp only [List.mem_cons, List.not_mem_nil, or_false] at hx
    subst hx
    exact slices_pdqsortCmpFunc.d2_ok hh2) h
noncomputable def slices_pdqsortCmpFunc.h18 (K : Value → Store → Prop) (rr2 : slices_pdqsortCmpFunc.R2) : Hand := hsel [(20, slices_pdqsortCmpFunc.d20 (slices_pdqsortCmpFunc.j20 K rr2)), (2, slices_pdqsortCmpFunc.d2 rr2)]
theorem slices_pdqsortCmpFunc.j18_eq (K : Value → Store → Prop) (rr2 : slices_pdqsortCmpFunc.R2) (dataA : Option Addr) (dataN dataC : Nat) (a b limit : Int) (wasBalanced wasPartitioned : Bool) (length pivot : Int) (t97 : Bool) (σ : Store) : (seg Pr slices_pdqsortCmpFunc.H F.slices_pdqsortCmpFunc slices_pdqsortCmpFunc.T (slices_pdqsortCmpFunc.h18 K rr2) K (slices_pdqsortCmpFunc.T 18) (Ev.cutE slices_pdqsortCmpFunc.H 18 [.v (.slice dataA dataN dataC), .v (.int .i64 a), .v (.int .i64 b), .v (.int .i64 limit), .v (.func (.func F.cache_Cache_All_1) #[] #[]), .v (.bool wasBalanced), .v (.bool wasPartitioned), .v (.int .i64 length), .v (.int .i64 pivot), .v (.bool t97)] []) σ) = slices_pdqsortCmpFunc.j18 K rr2 dataA dataN dataC a b limit wasBalanced wasPartitioned length pivot t97 σ := by kernel_rfl
theorem slices_pdqsortCmpFunc.j18_ok (K : Value → Store → Prop) (rr2 : slices_pdqsortCmpFunc.R2) (hh2 : ∀ dataA dataN dataC a b limit wasBalanced wasPartitioned σ, rr2 dataA dataN dataC a b limit wasBalanced wasPartitioned σ → slices_pdqsortCmpFunc.S2 K dataA dataN dataC a b limit wasBalanced wasPartitioned σ) (dataA : Option Addr) (dataN dataC : Nat) (a b limit : Int) (wasBalanced wasPartitioned : Bool) (length pivot : Int) (t97 : Bool) (σ : Store) (h : slices_pdqsortCmpFunc.j18 K rr2 dataA dataN dataC a b limit wasBalanced wasPartitioned length pivot t97 σ) : slices_pdqsortCmpFunc.S18 K dataA dataN dataC a b limit wasBalanced wasPartitioned length pivot t97 σ := by
  rw [← slices_pdqsortCmpFunc.j18_eq] at h
  exact seg_snd Pr_mixed (hsel_sound fun x hx => by
    simp only [List.mem_cons, List.not_mem_nil, or_false] at hx
    rcases hx with rfl | rfl
    · exact slices_pdqsortCmpFunc.d20_ok fun _ _ _ _ _ _ _ _ _ h => slices_pdqsortCmpFunc.j20_ok K rr2 hh2 _ _ _ _ _ _ _ _ _ h
    · exact slices_pdqsortCmpFunc.d2_ok hh2) h
noncomputable def slices_pdqsortCmpFunc.h17 (K : Value → Store → Prop) (rr2 : slices_pdqsortCmpFunc.R2) : Hand := hsel [(18, slices_pdqsortCmpFunc.d18 (slices_pdqsortCmpFunc.j18 K rr2)), (2, slices_pdqsortCmpFunc.d2 rr2)]
theorem slices_pdqsortCmpFunc.j17_eq (K : Value → Store → Prop) (rr2 : slices_pdqsortCmpFunc.R2) (dataA : Option Addr) (dataN dataC : Nat) (a b limit : Int) (wasBalanced wasPartitioned : Bool) (length pivot : Int) (σ : Store) : (seg Pr slices_pdqsortCmpFunc.H F.slices_pdqsortCmpFunc slices_pdqsortCmpFunc.T (slices_pdqsortCmpFunc.h17 K rr2) K (slices_pdqsortCmpFunc.T 17) (Ev.cutE slices_pdqsortCmpFunc.H 17 [.v (.slice dataA dataN dataC), .v (.int .i64 a), .v (.int .i64 b), .v (.int .i64 limit), .v (.func (.func F.cache_Cache_All_1) #[] #[]), .v (.bool wasBalanced), .v (.bool wasPartitioned), .v (.int .i64 length), .v (.int .i64 pivot)] []) σ) = slices_pdqsortCmpFunc.j17 K rr2 dataA dataN dataC a b limit wasBalanced wasPartitioned length pivot σ := by kernel_rfl
theorem slices_pdqsortCmpFunc.j17_ok (K : Value → Store → Prop) (rr2 : slices_pdqsortCmpFunc.R2) (hh2 : ∀ dataA dataN dataC a b limit wasBalanced wasPartitioned σ, rr2 dataA dataN dataC a b limit wasBalanced wasPartitioned σ → slices_pdqsortCmpFunc.S2 K dataA dataN dataC a b limit wasBalanced wasPartitioned σ) (dataA : Option Addr) (dataN dataC : Nat) (a b limit : Int) (wasBalanced wasPartitioned : Bool) (length pivot : Int) (σ : Store) (h : slices_pdqsortCmpFunc.j17 K rr2 dataA dataN dataC a b limit wasBalanced wasPartitioned length pivot σ) : slices_pdqsortCmpFunc.S17 K dataA dataN dataC a b limit wasBalanced wasPartitioned length pivot σ := by
  rw [← slices_pdqsortCmpFunc.j17_eq] at h
  exact seg_snd Pr_mixed (hsel_sound fun x hx => by
    simp only [List.mem_cons, List.not_mem_nil, or_false] at hx
    rcases hx with rfl | rfl
    · exact slices_pdqsortCmpFunc.d18_ok fun _ _ _ _ _ _ _ _ _ _ _ _ h => slices_pdqsortCmpFunc.j18_ok K rr2 hh2 _ _ _ _ _ _ _ _ _ _ _ _ h
    · exact slices_pdqsortCmpFunc.d2_ok hh2) h
noncomputable def slices_pdqsortCmpFunc.h16 (K : Value → Store → Prop) (rr2 : slices_pdqsortCmpFunc.R2) : Hand := hsel [(17, slices_pdqsortCmpFunc.d17 (slices_pdqsortCmpFunc.j17 K rr2)), (2, slices_pdqsortCmpFunc.d2 rr2)]
theorem slices_pdqsortCmpFunc.j16_eq (K : Value → Store → Prop) (rr2 : slices_pdqsortCmpFunc.R2) (dataA : Option Addr) (dataN dataC : Nat) (a b limit : Int) (wasBalanced wasPartitioned : Bool) (length pivot : Int) (t75 : Bool) (σ : Store) : (seg Pr slices_pdqsortCmpFunc.H F.slices_pdqsortCmpFunc slices_pdqsortCmpFunc.T (slices_pdqsortCmpFunc.h16 K rr2) K (slices_pdqsortCmpFunc.T 16) (Ev.cutE slices_pdqsortCmpFunc.H 16 [.v (.slice dataA dataN dataC), .v (.int .i64 a), .v (.int .i64 b), .v (.int .i64 limit), .v (.func (.func F.cache_Cache_All_1) #[] #[]), .v (.bool wasBalanced), .v (.bool wasPartitioned), .v (.int .i64 length), .v (.int .i64 pivot), .v (.bool t75)] []) σ) = slices_pdqsortCmpFunc.j16 K rr2 dataA dataN dataC a b limit wasBalanced wasPartitioned length pivot t75 σ := by kernel_rfl
theorem slices_pdqsortCmpFunc.j16_ok (K : Value → Store → Prop) (rr2 : slices_pdqsortCmpFunc.R2) (hh2 : ∀ dataA dataN dataC a b limit wasBalanced wasPartitioned σ, rr2 dataA dataN dataC a b limit wasBalanced wasPartitioned σ → slices_pdqsortCmpFunc.S2 K dataA dataN dataC a b limit wasBalanced wasPartitioned σ) (dataA : Option Addr) (dataN dataC : Nat) (a b limit : Int) (wasBalanced wasPartitioned : Bool) (length pivot : Int) (t75 : Bool) (σ : Store) (h : slices_pdqsortCmpFunc.j16 K rr2 dataA dataN dataC a b limit wasBalanced wasPartitioned length pivot t75 σ) : slices_pdqsortCmpFunc.S16 K dataA dataN dataC a b limit wasBalanced wasPartitioned length pivot t75 σ := by
  rw [← slices_pdqsortCmpFunc.j16_eq] at h
  exact seg_snd Pr_mixed (hsel_sound fun x hx => by
    simp only [List.mem_cons, List.not_mem_nil, or_false] at hx
    rcases hx with rfl | rfl
    · exact slices_pdqsortCmpFunc.d17_ok fun _ _ _ _ _ _ _ _ _ _ _ h => slices_pdqsortCmpFunc.j17_ok K rr2 hh2 _ _ _ _ _ _ _ _ _ _ _ h
    · exact slices_pdqsortCmpFunc.d2_ok hh2) h
noncomputable def slices_pdqsortCmpFunc.h15 (K : Value → Store → Prop) (rr2 : slices_pdqsortCmpFunc.R2) : Hand := hsel [(16, slices_pdqsortCmpFunc.d16 (slices_pdqsortCmpFunc.j16 K rr2)), (2, slices_pdqsortCmpFunc.d2 rr2)]
theorem slices_pdqsortCmpFunc.j15_eq (K : Value → Store → Prop) (rr2 : slices_pdqsortCmpFunc.R2) (dataA : Option Addr) (dataN dataC : Nat) (a b limit : Int) (wasBalanced wasPartitioned : Bool) (length pivot hint : Int) (σ : Store) : (seg Pr slices_pdqsortCmpFunc.H F.slices_pdqsortCmpFunc slices_pdqsortCmpFunc.T (slices_pdqsortCmpFunc.h15 K rr2) K (slices_pdqsortCmpFunc.T 15) (Ev.cutE slices_pdqsortCmpFunc.H 15 [.v (.slice dataA dataN dataC), .v (.int .i64 a), .v (.int .i64 b), .v (.int .i64 limit), .v (.func (.func F.cache_Cache_All_1) #[] #[]), .v (.bool wasBalanced), .v (.bool wasPartitioned), .v (.int .i64 length), .v (.int .i64 pivot), .v (.int .i64 hint)] []) σ) = slices_pdqsortCmpFunc.j15 K rr2 dataA dataN dataC a b limit wasBalanced wasPartitioned length pivot hint σ := by kernel_rfl
theorem slices_pdqsortCmpFunc.j15_ok (K : Value → Store → Prop) (rr2 : slices_pdqsortCmpFunc.R2) (hh2 : ∀ dataA dataN dataC a b limit wasBalanced wasPartitioned σ, rr2 dataA dataN dataC a b limit wasBalanced wasPartitioned σ → slices_pdqsortCmpFunc.S2 K dataA dataN dataC a b limit wasBalanced wasPartitioned σ) (dataA : Option Addr) (dataN dataC : Nat) (a b limit : Int) (wasBalanced wasPartitioned : Bool) (length pivot hint : Int) (σ : Store) (h : slices_pdqsortCmpFunc.j15 K rr2 dataA dataN dataC a b limit wasBalanced wasPartitioned length pivot hint σ) : slices_pdqsortCmpFunc.S15 K dataA dataN dataC a b limit wasBalanced wasPartitioned length pivot hint σ := by
  rw [← slices_pdqsortCmpFunc.j15_eq] at h
  exact seg_snd Pr_mixed (hsel_sound fun x hx => by
    simp only [List.mem_cons, List.not_mem_nil, or_false] at hx
    rcases hx with rfl | rfl
    · exact slices_pdqsortCmpFunc.d16_ok fun _ _ _ _ _ _ _ _ _ _ _ _ h => slices_pdqsortCmpFunc.j16_ok K rr2 hh2 _ _ _ _ _ _ _ _ _ _ _ _ h
    · exact slices_pdqsortCmpFunc.d2_ok hh2) h
noncomputable def slices_pdqsortCmpFunc.h10 (K : Value → Store → Prop) (rr2 : slices_pdqsortCmpFunc.R2) : Hand := hsel [(15, slices_pdqsortCmpFunc.d15 (slices_pdqsortCmpFunc.j15 K rr2)), (2, slices_pdqsortCmpFunc.d2 rr2)]
theorem slices_pdqsortCmpFunc.j10_eq (K : Value → Store → Prop) (rr2 : slices_pdqsortCmpFunc.R2) (dataA : Option Addr) (dataN dataC : Nat) (a b limit : Int) (wasBalanced wasPartitioned : Bool) (length : Int) (σ : Store) : (seg Pr slices_pdqsortCmpFunc.H F.slices_pdqsortCmpFunc slices_pdqsortCmpFunc.T (slices_pdqsortCmpFunc.h10 K rr2) K (slices_pdqsortCmpFunc.T 10) (Ev.cutE slices_pdqsortCmpFunc.H 10 [.v (.slice dataA dataN dataC), .v (.int .i64 a), .v (.int .i64 b), .v (.int .i64 limit), .v (.func (.func F.cache_Cache_All_1) #[] #[]), .v (.bool wasBalanced), .v (.bool wasPartitioned), .v (.int .i64 length)] []) σ) = slices_pdqsortCmpFunc.j10 K rr2 dataA dataN dataC a b limit wasBalanced wasPartitioned length σ := by kernel_rfl
theorem slices_pdqsortCmpFunc.j10_ok (K : Value → Store → Prop) (rr2 : slices_pdqsortCmpFunc.R2) (hh2 : ∀ dataA dataN dataC a b limit wasBalanced wasPartitioned σ, rr2 dataA dataN dataC a b limit wasBalanced wasPartitioned σ → slices_pdqsortCmpFunc.S2 K dataA dataN dataC a b limit wasBalanced wasPartitioned σ) (dataA : Option Addr) (dataN dataC : Nat) (a b limit : Int) (wasBalanced wasPartitioned : Bool) (length : Int) (σ : Store) (h : slices_pdqsortCmpFunc.j10 K rr2 dataA dataN dataC a b limit wasBalanced wasPartitioned length σ) : slices_pdqsortCmpFunc.S10 K dataA dataN dataC a b limit wasBalanced wasPartitioned length σ := by
  rw [← slices_pdqsortCmpFunc.j10_eq] at h
  exact seg_snd Pr_mixed (hsel_sound fun x hx => by
    simp only [List.mem_cons, List.not_mem_nil, or_false] at hx
    rcases hx with rfl | rfl
    · exact slices_pdqsortCmpFunc.d15_ok fun _ _ _ _ _ _ _ _ _ _ _ _ h => slices_pdqsortCmpFunc.j15_ok K rr2 hh2 _ _ _ _ _ _ _ _ _ _ _ _ h
    · exact slices_pdqsortCmpFunc.d2_ok hh2) h
noncomputable def slices_pdqsortCmpFunc.h2 (K : Value → Store → Prop) (rr2 : slices_pdqsortCmpFunc.R2) : Hand := hsel [(10, slices_pdqsortCmpFunc.d10 (slices_pdqsortCmpFunc.j10 K rr2)), (2, slices_pdqsortCmpFunc.d2 rr2)]
theorem slices_pdqsortCmpFunc.b2_eq (K : Value → Store → Prop) (rr2 : slices_pdqsortCmpFunc.R2) (dataA : Option Addr) (dataN dataC : Nat) (a b limit : Int) (wasBalanced wasPartitioned : Bool) (σ : Store) : (seg Pr slices_pdqsortCmpFunc.H F.slices_pdqsortCmpFunc slices_pdqsortCmpFunc.T (slices_pdqsortCmpFunc.h2 K rr2) K (slices_pdqsortCmpFunc.T 2) (Ev.cutE slices_pdqsortCmpFunc.H 2 [.v (.slice dataA dataN dataC), .v (.int .i64 a), .v (.int .i64 b), .v (.int .i64 limit), .v (.func (.func F.cache_Cache_All_1) #[] #[]), .v (.bool wasBalanced), .v (.bool wasPartitioned)] []) σ) = slices_pdqsortCmpFunc.b2 K rr2 dataA dataN dataC a b limit wasBalanced wasPartitioned σ := by kernel_rfl
theorem slices_pdqsortCmpFunc.b2_ok (K : Value → Store → Prop) (rr2 : slices_pdqsortCmpFunc.R2) (hh2 : ∀ dataA dataN dataC a b limit wasBalanced wasPartitioned σ, rr2 dataA dataN dataC a b limit wasBalanced wasPartitioned σ → slices_pdqsortCmpFunc.S2 K dataA dataN dataC a b limit wasBalanced wasPartitioned σ) (dataA : Option Addr) (dataN dataC : Nat) (a b limit : Int) (wasBalanced wasPartitioned : Bool) (σ : Store) (h : slices_pdqsortCmpFunc.b2 K rr2 dataA dataN dataC a b limit wasBalanced wasPartitioned σ) : slices_pdqsortCmpFunc.S2 K dataA dataN dataC a b limit wasBalanced wasPartitioned σ := by
  rw [← slices_pdqsortCmpFunc.b2_eq] at h
  exact seg_snd Pr_mixed (hsel_sound fun x hx => by
    simp only [List.mem_cons, List.not_mem_nil, or_false] at hx
    rcases hx with rfl | rfl
    · exact slices_pdqsortCmpFunc.d10_ok fun _ _ _ _ _ _ _ _ _ _ h => slices_pdqsortCmpFunc.j10_ok K rr2 hh2 _ _ _ _ _ _ _ _ _ _ h
    · exact slices_pdqsortCmpFunc.d2_ok hh2) h
theorem slices_pdqsortCmpFunc.l2_ok (K : Value → Store → Prop) : ∀ (n : Nat) (dataA : Option Addr) (dataN dataC : Nat) (a b limit : Int) (wasBalanced wasPartitioned : Bool) (σ : Store), slices_pdqsortCmpFunc.l2 K n dataA dataN dataC a b limit wasBalanced wasPartitioned σ → slices_pdqsortCmpFunc.S2 K dataA dataN dataC a b limit wasBalanced wasPartitioned σ
  | 0, _, _, _, _, _, _, _, _, _, h => h.elim
  | n + 1, _, _, _, _, _, _, _, _, _, h => slices_pdqsortCmpFunc.b2_ok K (slices_pdqsortCmpFunc.l2 K n) (slices_pdqsortCmpFunc.l2_ok K n) _ _ _ _ _ _ _ _ _ h
noncomputable def slices_pdqsortCmpFunc.h (K : Value → Store → Prop) : Hand := hsel [(2, slices_pdqsortCmpFunc.d2 fun dataA dataN dataC a b limit wasBalanced wasPartitioned σ => ∃ n : Nat, slices_pdqsortCmpFunc.l2 K n dataA dataN dataC a b limit wasBalanced wasPartitioned σ)]
theorem slices_pdqsortCmpFunc.m_eq (K : Value → Store → Prop) (dataA : Option Addr) (dataN dataC : Nat) (a b limit : Int) (σ : Store) : (segF Pr slices_pdqsortCmpFunc.H F.slices_pdqsortCmpFunc slices_pdqsortCmpFunc.T (slices_pdqsortCmpFunc.h K) K [.slice dataA dataN dataC, .int .i64 a, .int .i64 b, .int .i64 limit, .func (.func F.cache_Cache_All_1) #[] #[]] σ) = slices_pdqsortCmpFunc.m K dataA dataN dataC a b limit σ := by kernel_rfl
theorem slices_pdqsortCmpFunc.ok {K : Value → Store → Prop} {dataA : Option Addr} {dataN dataC : Nat} {a b limit : Int} {σ : Store} (h : slices_pdqsortCmpFunc.m K dataA dataN dataC a b limit σ) : Spec Pr F.slices_pdqsortCmpFunc [.slice dataA dataN dataC, .int .i64 a, .int .i64 b, .int .i64 limit, .func (.func F.cache_Cache_All_1) #[] #[]] σ K := by
  rw [← slices_pdqsortCmpFunc.m_eq] at h
  exact segF_spec Pr_mixed (hsel_sound fun x hx => by
    simp only [List.mem_cons, List.not_mem_nil, or_false] at hx
    subst hx
    exact slices_pdqsortCmpFunc.d2_ok fun _ _ _ _ _ _ _ _ _ ⟨n, h⟩ => slices_pdqsortCmpFunc.l2_ok K n _ _ _ _ _ _ _ _ _ h) h

/-! ### slices.insertionSortCmpFunc[corral/cache.Entry] -/
def slices_insertionSortCmpFunc.H : Hints := { esc := [], cuts := [(1, [0, 1, 2, 3, 8], []), (4, [0, 1, 2, 3, 8, 9], []), (6, [0, 1, 2, 3, 8, 9], []), (2, [0, 1, 2, 3, 8], [])] }
noncomputable def slices_insertionSortCmpFunc.T : Nat → List Item := stk Pr F.slices_insertionSortCmpFunc [(1, [1, 0, 0]), (4, [1, 0, 0, 1, 0, 0, 1, 0, 0]), (6, [1, 0, 0, 1, 0, 0, 1, 0, 0, 1]), (2, [1, 0, 0, 1, 1])]
abbrev slices_insertionSortCmpFunc.R2 : Type := Option Addr → Nat → Nat → Int → Int → Int → Store → Prop
abbrev slices_insertionSortCmpFunc.R6 : Type := Option Addr → Nat → Nat → Int → Int → Int → Int → Store → Prop
abbrev slices_insertionSortCmpFunc.R4 : Type := Option Addr → Nat → Nat → Int → Int → Int → Int → Store → Prop
abbrev slices_insertionSortCmpFunc.R1 : Type := Option Addr → Nat → Nat → Int → Int → Int → Store → Prop
def slices_insertionSortCmpFunc.d2 (g : slices_insertionSortCmpFunc.R2) : List AV → List (List Value) → Store → Prop
  | [.v (.slice dataA dataN dataC), .v (.int .i64 a), .v (.int .i64 b), .v (.func (.func 66) ⟨[]⟩ ⟨[]⟩), .v (.int .i64 i)], [], σ => g dataA dataN dataC a b i σ
  | _, _, _ => False
def slices_insertionSortCmpFunc.S2 (K : Value → Store → Prop) (dataA : Option Addr) (dataN dataC : Nat) (a b i : Int) (σ : Store) : Prop := SndF Pr F.slices_insertionSortCmpFunc slices_insertionSortCmpFunc.H slices_insertionSortCmpFunc.T K 2 [.v (.slice dataA dataN dataC), .v (.int .i64 a), .v (.int .i64 b), .v (.func (.func F.cache_Cache_All_1) #[] #[]), .v (.int .i64 i)] [] σ
def slices_insertionSortCmpFunc.j2 (K : Value → Store → Prop) (rr1 : slices_insertionSortCmpFunc.R1) (dataA : Option Addr) (dataN dataC : Nat) (a b i : Int) (σ : Store) : Prop :=
  Hop (slices_insertionSortCmpFunc.T 1) (slices_insertionSortCmpFunc.T 1) (rr1 dataA dataN dataC a b (IntKind.wrap .i64 (i + 1)) σ)
def slices_insertionSortCmpFunc.d6 (g : slices_insertionSortCmpFunc.R6) : List AV → List (List Value) → Store → Prop
  | [.v (.slice dataA dataN dataC), .v (.int .i64 a), .v (.int .i64 b), .v (.func (.func 66) ⟨[]⟩ ⟨[]⟩), .v (.int .i64 i), .v (.int .i64 j)], [], σ => g dataA dataN dataC a b i j σ
  | _, _, _ => False
def slices_insertionSortCmpFunc.S6 (K : Value → Store → Prop) (dataA : Option Addr) (dataN dataC : Nat) (a b i j : Int) (σ : Store) : Prop := SndF Pr F.slices_insertionSortCmpFunc slices_insertionSortCmpFunc.H slices_insertionSortCmpFunc.T K 6 [.v (.slice dataA dataN dataC), .v (.int .i64 a), .v (.int .i64 b), .v (.func (.func F.cache_Cache_All_1) #[] #[]), .v (.int .i64 i), .v (.int .i64 j)] [] σ
def slices_insertionSortCmpFunc.j6 (K : Value → Store → Prop) (rr1 : slices_insertionSortCmpFunc.R1) (rr4 : slices_insertionSortCmpFunc.R4) (dataA : Option Addr) (dataN dataC : Nat) (a b i j : Int) (σ : Store) : Prop :=
  Req (decide (0 ≤ (IntKind.wrap .i64 (j - 1))) && decide ((IntKind.wrap .i64 (j - 1)) < ((dataN : Nat) : Int))) (
    PtrNN dataA fun t45B t45O =>
    ∃ t460 : Int, ∃ t461 : Int, ∃ t462 : Int, ∃ t463 : Int, ∃ t464 : Int, ∃ t465 : Int, cellsAt σ t45B (t45O + (IntKind.wrap .i64 (j - 1)).toNat * 6) 6 = some [.int .i64 t460, .int .i64 t461, .int .u32 t462, .int .u32 t463, .int .u32 t464, .int .u32 t465] ∧
    Req (decide (0 ≤ j) && decide (j < ((dataN : Nat) : Int))) (
      PtrNN dataA fun t49B t49O =>
      ∃ t500 : Int, ∃ t501 : Int, ∃ t502 : Int, ∃ t503 : Int, ∃ t504 : Int, ∃ t505 : Int, cellsAt σ t49B (t49O + j.toNat * 6) 6 = some [.int .i64 t500, .int .i64 t501, .int .u32 t502, .int .u32 t503, .int .u32 t504, .int .u32 t505] ∧
      Req (decide (0 ≤ j) && decide (j < ((dataN : Nat) : Int))) (
        PtrNN dataA fun t51B t51O =>
        StoreK σ t51B (t51O + j.toNat * 6) 6 [.int .i64 t460, .int .i64 t461, .int .u32 t462, .int .u32 t463, .int .u32 t464, .int .u32 t465] fun σ_ =>
        Req (decide (0 ≤ (IntKind.wrap .i64 (j - 1))) && decide ((IntKind.wrap .i64 (j - 1)) < ((dataN : Nat) : Int))) (
          PtrNN dataA fun t52B t52O =>
          StoreK σ_ t52B (t52O + (IntKind.wrap .i64 (j - 1)).toNat * 6) 6 [.int .i64 t500, .int .i64 t501, .int .u32 t502, .int .u32 t503, .int .u32 t504, .int .u32 t505] fun σ_1 =>
          Hop (slices_insertionSortCmpFunc.T 4) (slices_insertionSortCmpFunc.T 4) (rr4 dataA dataN dataC a b i (IntKind.wrap .i64 (j - 1)) σ_1)))))
def slices_insertionSortCmpFunc.d4 (g : slices_insertionSortCmpFunc.R4) : List AV → List (List Value) → Store → Prop
  | [.v (.slice dataA dataN dataC), .v (.int .i64 a), .v (.int .i64 b), .v (.func (.func 66) ⟨[]⟩ ⟨[]⟩), .v (.int .i64 i), .v (.int .i64 j)], [], σ => g dataA dataN dataC a b i j σ
  | _, _, _ => False
def slices_insertionSortCmpFunc.S4 (K : Value → Store → Prop) (dataA : Option Addr) (dataN dataC : Nat) (a b i j : Int) (σ : Store) : Prop := SndF Pr F.slices_insertionSortCmpFunc slices_insertionSortCmpFunc.H slices_insertionSortCmpFunc.T K 4 [.v (.slice dataA dataN dataC), .v (.int .i64 a), .v (.int .i64 b), .v (.func (.func F.cache_Cache_All_1) #[] #[]), .v (.int .i64 i), .v (.int .i64 j)] [] σ
def slices_insertionSortCmpFunc.b4 (K : Value → Store → Prop) (rr1 : slices_insertionSortCmpFunc.R1) (rr4 : slices_insertionSortCmpFunc.R4) (dataA : Option Addr) (dataN dataC : Nat) (a b i j : Int) (σ : Store) : Prop :=
  cond (decide (j > a))
  (Req (decide (0 ≤ j) && decide (j < ((dataN : Nat) : Int))) (
      PtrNN dataA fun t25B t25O =>
      ∃ t260 : Int, ∃ t261 : Int, ∃ t262 : Int, ∃ t263 : Int, ∃ t264 : Int, ∃ t265 : Int, cellsAt σ t25B (t25O + j.toNat * 6) 6 = some [.int .i64 t260, .int .i64 t261, .int .u32 t262, .int .u32 t263, .int .u32 t264, .int .u32 t265] ∧
      Req (decide (0 ≤ (IntKind.wrap .i64 (j - 1))) && decide ((IntKind.wrap .i64 (j - 1)) < ((dataN : Nat) : Int))) (
        PtrNN dataA fun t30B t30O =>
        ∃ t310 : Int, ∃ t311 : Int, ∃ t312 : Int, ∃ t313 : Int, ∃ t314 : Int, ∃ t315 : Int, cellsAt σ t30B (t30O + (IntKind.wrap .i64 (j - 1)).toNat * 6) 6 = some [.int .i64 t310, .int .i64 t311, .int .u32 t312, .int .u32 t313, .int .u32 t314, .int .u32 t315] ∧
        Spec Pr F.cache_Cache_All_1 [.agg #[.int .i64 t260, .int .i64 t261, .int .u32 t262, .int .u32 t263, .int .u32 t264, .int .u32 t265], .agg #[.int .i64 t310, .int .i64 t311, .int .u32 t312, .int .u32 t313, .int .u32 t314, .int .u32 t315]] σ fun v σ_ => ∃ t32 : Int, v = .int .i64 t32 ∧
        cond (decide (t32 < 0))
        (Hop (slices_insertionSortCmpFunc.T 6) (slices_insertionSortCmpFunc.T 6) (slices_insertionSortCmpFunc.j6 K rr1 rr4 dataA dataN dataC a b i j σ_))
        (Hop (slices_insertionSortCmpFunc.T 2) (slices_insertionSortCmpFunc.T 2) (slices_insertionSortCmpFunc.j2 K rr1 dataA dataN dataC a b i σ_)))))
  (Hop (slices_insertionSortCmpFunc.T 2) (slices_insertionSortCmpFunc.T 2) (slices_insertionSortCmpFunc.j2 K rr1 dataA dataN dataC a b i σ))
def slices_insertionSortCmpFunc.l4 (K : Value → Store → Prop) (rr1 : slices_insertionSortCmpFunc.R1) : Nat → slices_insertionSortCmpFunc.R4
  | 0, _, _, _, _, _, _, _, _ => False
  | n + 1, dataA, dataN, dataC, a, b, i, j, σ => slices_insertionSortCmpFunc.b4 K rr1 (slices_insertionSortCmpFunc.l4 K rr1 n) dataA dataN dataC a b i j σ
def slices_insertionSortCmpFunc.d1 (g : slices_insertionSortCmpFunc.R1) : List AV → List (List Value) → Store → Prop
  | [.v (.slice dataA dataN dataC), .v (.int .i64 a), .v (.int .i64 b), .v (.func (.func 66) ⟨[]⟩ ⟨[]⟩), .v (.int .i64 i)], [], σ => g dataA dataN dataC a b i σ
  | _, _, _ => False
def slices_insertionSortCmpFunc.S1 (K : Value → Store → Prop) (dataA : Option Addr) (dataN dataC : Nat) (a b i : Int) (σ : Store) : Prop := SndF Pr F.slices_insertionSortCmpFunc slices_insertionSortCmpFunc.H slices_insertionSortCmpFunc.T K 1 [.v (.slice dataA dataN dataC), .v (.int .i64 a), .v (.int .i64 b), .v (.func (.func F.cache_Cache_All_1) #[] #[]), .v (.int .i64 i)] [] σ
def slices_insertionSortCmpFunc.b1 (K : Value → Store → Prop) (rr1 : slices_insertionSortCmpFunc.R1) (dataA : Option Addr) (dataN dataC : Nat) (a b i : Int) (σ : Store) : Prop :=
  cond (decide (i < b))
  (Hop (slices_insertionSortCmpFunc.T 4) (slices_insertionSortCmpFunc.T 4) (∃ n : Nat, slices_insertionSortCmpFunc.l4 K rr1 n dataA dataN dataC a b i i σ))
  (K (.tuple #[]) σ)
def slices_insertionSortCmpFunc.l1 (K : Value → Store → Prop) : Nat → slices_insertionSortCmpFunc.R1
  | 0, _, _, _, _, _, _, _ => False
  | n + 1, dataA, dataN, dataC, a, b, i, σ => slices_insertionSortCmpFunc.b1 K (slices_insertionSortCmpFunc.l1 K n) dataA dataN dataC a b i σ
def slices_insertionSortCmpFunc.m (K : Value → Store → Prop) (dataA : Option Addr) (dataN dataC : Nat) (a b : Int) (σ : Store) : Prop :=
  Hop (slices_insertionSortCmpFunc.T 1) (slices_insertionSortCmpFunc.T 1) (∃ n : Nat, slices_insertionSortCmpFunc.l1 K n dataA dataN dataC a b (IntKind.wrap .i64 (a + 1)) σ)
theorem slices_insertionSortCmpFunc.d2_ok {K : Value → Store → Prop} {g : slices_insertionSortCmpFunc.R2} (hg : ∀ dataA dataN dataC a b i σ, g dataA dataN dataC a b i σ → slices_insertionSortCmpFunc.S2 K dataA dataN dataC a b i σ) (vs : List AV) (bs : List (List Value)) (σ : Store) (h : slices_insertionSortCmpFunc.d2 g vs bs σ) : SndF Pr F.slices_insertionSortCmpFunc slices_insertionSortCmpFunc.H slices_insertionSortCmpFunc.T K 2 vs bs σ := by
  unfold slices_insertionSortCmpFunc.d2 at h
  split at h
  · exact hg _ _ _ _ _ _ _ h
  · exact h.elim
theorem slices_insertionSortCmpFunc.d6_ok {K : Value → Store → Prop} {g : slices_insertionSortCmpFunc.R6} (hg : ∀ dataA dataN dataC a b i j σ, g dataA dataN dataC a b i j σ → slices_insertionSortCmpFunc.S6 K dataA dataN dataC a b i j σ) (vs : List AV) (bs : List (List Value)) (σ : Store) (h : slices_insertionSortCmpFunc.d6 g vs bs σ) : SndF Pr F.slices_insertionSortCmpFunc slices_insertionSortCmpFunc.H slices_insertionSortCmpFunc.T K 6 vs bs σ := by
  unfold slices_insertionSortCmpFunc.d6 at h
  split at h
  · exact hg _ _ _ _ _ _ _ _ h
  · exact h.elim
theorem slices_insertionSortCmpFunc.d4_ok {K : Value → Store → Prop} {g : slices_insertionSortCmpFunc.R4} (hg : ∀ dataA dataN dataC a b i j σ, g dataA dataN dataC a b i j σ → slices_insertionSortCmpFunc.S4 K dataA dataN dataC a b i j σ) (vs : List AV) (bs : List (List Value)) (σ : Store) (h : slices_insertionSortCmpFunc.d4 g vs bs σ) : SndF Pr F.slices_insertionSortCmpFunc slices_insertionSortCmpFunc.H slices_insertionSortCmpFunc.T K 4 vs bs σ := by
  unfold slices_insertionSortCmpFunc.d4 at h
  split at h
  · exact hg _ _ _ _ _ _ _ _ h
  · exact h.elim
theorem slices_insertionSortCmpFunc.d1_ok {K : Value → Store → Prop} {g : slices_insertionSortCmpFunc.R1} (hg : ∀ dataA dataN dataC a b i σ, g dataA dataN dataC a b i σ → slices_insertionSortCmpFunc.S1 K dataA dataN dataC a b i σ) (vs : List AV) (bs : List (List Value)) (σ : Store) (h : slices_insertionSortCmpFunc.d1 g vs bs σ) : SndF Pr F.slices_insertionSortCmpFunc slices_insertionSortCmpFunc.H slices_insertionSortCmpFunc.T K 1 vs bs σ := by
  unfold slices_insertionSortCmpFunc.d1 at h
  split at h
  · exact hg _ _ _ _ _ _ _ h
  · exact h.elim
noncomputable def slices_insertionSortCmpFunc.h2 (K : Value → Store → Prop) (rr1 : slices_insertionSortCmpFunc.R1) : Hand := hsel [(1, slices_insertionSortCmpFunc.d1 rr1)]
theorem slices_insertionSortCmpFunc.j2_eq (K : Value → Store → Prop) (rr1 : slices_insertionSortCmpFunc.R1) (dataA : Option Addr) (dataN dataC : Nat) (a b i : Int) (σ : Store) : (seg Pr slices_insertionSortCmpFunc.H F.slices_insertionSortCmpFunc slices_insertionSortCmpFunc.T (slices_insertionSortCmpFunc.h2 K rr1) K (slices_insertionSortCmpFunc.T 2) (Ev.cutE slices_insertionSortCmpFunc.H 2 [.v (.slice dataA dataN dataC), .v (.int .i64 a), .v (.int .i64 b), .v (.func (.func F.cache_Cache_All_1) #[] #[]), .v (.int .i64 i)] []) σ) = slices_insertionSortCmpFunc.j2 K rr1 dataA dataN dataC a b i σ := by kernel_rfl
theorem slices_insertionSortCmpFunc.j2_ok (K : Value → Store → Prop) (rr1 : slices_insertionSortCmpFunc.R1) (hh1 : ∀ dataA dataN dataC a b i σ, rr1 dataA dataN dataC a b i σ → slices_insertionSortCmpFunc.S1 K dataA dataN dataC a b i σ) (dataA : Option Addr) (dataN dataC : Nat) (a b i : Int) (σ : Store) (h : slices_insertionSortCmpFunc.j2 K rr1 dataA dataN dataC a b i σ) : slices_insertionSortCmpFunc.S2 K dataA dataN dataC a b i σ := by
  rw [← slices_insertionSortCmpFunc.j2_eq] at h
  exact seg_snd Pr_mixed (hsel_sound fun x hx => by
    simp only [List.mem_cons, List.not_mem_nil, or_false] at hx
    subst hx
    exact slices_insertionSortCmpFunc.d1_ok hh1) h
noncomputable def slices_insertionSortCmpFunc.h6 (K : Value → Store → Prop) (rr1 : slices_insertionSortCmpFunc.R1) (rr4 : slices_insertionSortCmpFunc.R4) : Hand := hsel [(1, slices_insertionSortCmpFunc.d1 rr1), (4, slices_insertionSortCmpFunc.d4 rr4)]
theorem slices_insertionSortCmpFunc.j6_eq (K : Value → Store → Prop) (rr1 : slices_insertionSortCmpFunc.R1) (rr4 : slices_insertionSortCmpFunc.R4) (dataA : Option Addr) (dataN dataC : Nat) (a b i j : Int) (σ : Store) : (seg Pr slices_insertionSortCmpFunc.H F.slices_insertionSortCmpFunc slices_insertionSortCmpFunc.T (slices_insertionSortCmpFunc.h6 K rr1 rr4) K (slices_insertionSortCmpFunc.T 6) (Ev.cutE slices_insertionSortCmpFunc.H 6 [.v (.slice dataA dataN dataC), .v (.int .i64 a), .v (.int .i64 b), .v (.func (.func F.cache_Cache_All_1) #[] #[]), .v (.int .i64 i), .v (.int .i64 j)] []) σ) = slices_insertionSortCmpFunc.j6 K rr1 rr4 dataA dataN dataC a b i j σ := by kernel_rfl
theorem slices_insertionSortCmpFunc.j6_ok (K : Value → Store → Prop) (rr1 : slices_insertionSortCmpFunc.R1) (hh1 : ∀ dataA dataN dataC a b i σ, rr1 dataA dataN dataC a b i σ → slices_insertionSortCmpFunc.S1 K dataA dataN dataC a b i σ) (rr4 : slices_insertionSortCmpFunc.R4) (hh4 : ∀ dataA dataN dataC a b i j σ, rr4 dataA dataN dataC a b i j σ → slices_insertionSortCmpFunc.S4 K dataA dataN dataC a b i j σ) (dataA : Option Addr) (dataN dataC : Nat) (a b i j : Int) (σ : Store) (h : slices_insertionSortCmpFunc.j6 K rr1 rr4 dataA dataN dataC a b i j σ) : slices_insertionSortCmpFunc.S6 K dataA dataN dataC a b i j σ := by
  rw [← slices_insertionSortCmpFunc.j6_eq] at h
  exact seg_snd Pr_mixed (hsel_sound fun x hx => by
    simp only [List.mem_cons, List.not_mem_nil, or_false] at hx
    rcases hx with rfl | rfl
    · exact slices_insertionSortCmpFunc.d1_ok hh1
    · exact slices_insertionSortCmpFunc.d4_ok hh4) h
noncomputable def slices_insertionSortCmpFunc.h4 (K : Value → Store → Prop) (rr1 : slices_insertionSortCmpFunc.R1) (rr4 : slices_insertionSortCmpFunc.R4) : Hand := hsel [(2, slices_insertionSortCmpFunc.d2 (slices_insertionSortCmpFunc.j2 K rr1)), (6, slices_insertionSortCmpFunc.d6 (slices_insertionSortCmpFunc.j6 K rr1 rr4)), (1, slices_insertionSortCmpFunc.d1 rr1), (4, slices_insertionSortCmpFunc.d4 rr4)]
theorem slices_insertionSortCmpFunc.b4_eq (K : Value → Store → Prop) (rr1 : slices_insertionSortCmpFunc.R1) (rr4 : slices_insertionSortCmpFunc.R4) (dataA : Option Addr) (dataN dataC : Nat) (a b i j : Int) (σ : Store) : (seg Pr slices_insertionSortCmpFunc.H F.slices_insertionSortCmpFunc slices_insertionSortCmpFunc.T (slices_insertionSortCmpFunc.h4 K rr1 rr4) K (slices_insertionSortCmpFunc.T 4) (Ev.cutE slices_insertionSortCmpFunc.H 4 [.v (.slice dataA dataN dataC), .v (.int .i64 a), .v (.int .i64 b), .v (.func (.func F.cache_Cache_All_1) #[] #[]), .v (.int .i64 i), .v (.int .i64 j)] []) σ) = slices_insertionSortCmpFunc.b4 K rr1 rr4 dataA dataN dataC a b i j σ := by kernel_rfl
theorem slices_insertionSortCmpFunc.b4_ok (K : Value → Store → Prop) (rr1 : slices_insertionSortCmpFunc.R1) (hh1 : ∀ dataA dataN dataC a b i σ, rr1 dataA dataN dataC a b i σ → slices_insertionSortCmpFunc.S1 K dataA dataN dataC a b i σ) (rr4 : slices_insertionSortCmpFunc.R4) (hh4 : ∀ dataA dataN dataC a b i j σ, rr4 dataA dataN dataC a b i j σ → slices_insertionSortCmpFunc.S4 K dataA dataN dataC a b i j σ) (dataA : Option Addr) (dataN dataC : Nat) (a b i j : Int) (σ : Store) (h : slices_insertionSortCmpFunc.b4 K rr1 rr4 dataA dataN dataC a b i j σ) : slices_insertionSortCmpFunc.S4 K dataA dataN dataC a b i j σ := by
  rw [← slices_insertionSortCmpFunc.b4_eq] at h
  exact seg_snd Pr_mixed (hsel_sound fun x hx => by
    simp only [List.mem_cons, List.not_mem_nil, or_false] at hx
    rcases hx with rfl | rfl | rfl | rfl
    · exact slices_insertionSortCmpFunc.d2_ok fun _ _ _ _ _ _ _ h => slices_insertionSortCmpFunc.j2_ok K rr1 hh1 _ _ _ _ _ _ _ h
    · exact slices_insertionSortCmpFunc.d6_ok fun _ _ _ _ _ _ _ _ h => slices_insertionSortCmpFunc.j6_ok K rr1 hh1 rr4 hh4 _ _ _ _ _ _ _ _ h
    · exact slices_insertionSortCmpFunc.d1_ok hh1
    · exact slices_insertionSortCmpFunc.d4_ok hh4) h
theorem slices_insertionSortCmpFunc.l4_ok (K : Value → Store → Prop) (rr1 : slices_insertionSortCmpFunc.R1) (hh1 : ∀ dataA dataN dataC a b i σ, rr1 dataA dataN dataC a b i σ → slices_insertionSortCmpFunc.S1 K dataA dataN dataC a b i σ) : ∀ (n : Nat) (dataA : Option Addr) (dataN dataC : Nat) (a b i j : Int) (σ : Store), slices_insertionSortCmpFunc.l4 K rr1 n dataA dataN dataC a b i j σ → slices_insertionSortCmpFunc.S4 K dataA dataN dataC a b i j σ
  | 0, _, _, _, _, _, _, _, _, h => h.elim
  | n + 1, _, _, _, _, _, _, _, _, h => slices_insertionSortCmpFunc.b4_ok K rr1 hh1 (slices_insertionSortCmpFunc.l4 K rr1 n) (slices_insertionSortCmpFunc.l4_ok K rr1 hh1 n) _ _ _ _ _ _ _ _ h
noncomputable def slices_insertionSortCmpFunc.h1 (K : Value → Store → Prop) (rr1 : slices_insertionSortCmpFunc.R1) : Hand := hsel [(4, slices_insertionSortCmpFunc.d4 fun dataA dataN dataC a b i j σ => ∃ n : Nat, slices_insertionSortCmpFunc.l4 K rr1 n dataA dataN dataC a b i j σ), (1, slices_insertionSortCmpFunc.d1 rr1)]
theorem slices_insertionSortCmpFunc.b1_eq (K : Value → Store → Prop) (rr1 : slices_insertionSortCmpFunc.R1) (dataA : Option Addr) (dataN dataC : Nat) (a b i : Int) (σ : Store) : (seg Pr slices_insertionSortCmpFunc.H F.slices_insertionSortCmpFunc slices_insertionSortCmpFunc.T (slices_insertionSortCmpFunc.h1 K rr1) K (slices_insertionSortCmpFunc.T 1) (Ev.cutE slices_insertionSortCmpFunc.H 1 [.v (.slice dataA dataN dataC), .v (.int .i64 a), .v (.int .i64 b), .v (.func (.func F.cache_Cache_All_1) #[] #[]), .v (.int .i64 i)] []) σ) = slices_insertionSortCmpFunc.b1 K rr1 dataA dataN dataC a b i σ := by kernel_rfl
theorem slices_insertionSortCmpFunc.b1_ok (K : Value → Store → Prop) (rr1 : slices_insertionSortCmpFunc.R1) (hh1 : ∀ dataA dataN dataC a b i σ, rr1 dataA dataN dataC a b i σ → slices_insertionSortCmpFunc.S1 K dataA dataN dataC a b i σ) (dataA : Option Addr) (dataN dataC : Nat) (a b i : Int) (σ : Store) (h : slices_insertionSortCmpFunc.b1 K rr1 dataA dataN dataC a b i σ) : slices_insertionSortCmpFunc.S1 K dataA dataN dataC a b i σ := by
  rw [← slices_insertionSortCmpFunc.b1_eq] at h
  exact seg_snd Pr_mixed (hsel_sound fun x hx => by
    simp only [List.mem_cons, List.not_mem_nil, or_false] at hx
    rcases hx with rfl | rfl
    · exact slices_insertionSortCmpFunc.d4_ok fun _ _ _ _ _ _ _ _ ⟨n, h⟩ => slices_insertionSortCmpFunc.l4_ok K rr1 hh1 n _ _ _ _ _ _ _ _ h
    · exact slices_insertionSortCmpFunc.d1_ok hh1) h
theorem slices_insertionSortCmpFunc.l1_ok (K : Value → Store → Prop) : ∀ (n : Nat) (dataA : Option Addr) (dataN dataC : Nat) (a b i : Int) (σ : Store), slices_insertionSortCmpFunc.l1 K n dataA dataN dataC a b i σ → slices_insertionSortCmpFunc.S1 K dataA dataN dataC a b i σ
  | 0, _, _, _, _, _, _, _, h => h.elim
  | n + 1, _, _, _, _, _, _, _, h => slices_insertionSortCmpFunc.b1_ok K (slices_insertionSortCmpFunc.l1 K n) (slices_insertionSortCmpFunc.l1_ok K n) _ _ _ _ _ _ _ h
noncomputable def slices_insertionSortCmpFunc.h (K : Value → Store → Prop) : Hand := hsel [(1, slices_insertionSortCmpFunc.d1 fun dataA dataN dataC a b i σ => ∃ n : Nat, slices_insertionSortCmpFunc.l1 K n dataA dataN dataC a b i σ)]
theorem slices_insertionSortCmpFunc.m_eq (K : Value → Store → Prop) (dataA : Option Addr) (dataN dataC : Nat) (a b : Int) (σ : Store) : (segF Pr slices_insertionSortCmpFunc.H F.slices_insertionSortCmpFunc slices_insertionSortCmpFunc.T (slices_insertionSortCmpFunc.h K) K [.slice dataA dataN dataC, .int .i64 a, .int .i64 b, .func (.func F.cache_Cache_All_1) #[] #[]] σ) = slices_insertionSortCmpFunc.m K dataA dataN dataC a b σ := by kernel_rfl
theorem slices_insertionSortCmpFunc.ok {K : Value → Store → Prop} {dataA : Option Addr} {dataN dataC : Nat} {a b : Int} {σ : Store} (h : slices_insertionSortCmpFunc.m K dataA dataN dataC a b σ) : Spec Pr F.slices_insertionSortCmpFunc [.slice dataA dataN dataC, .int .i64 a, .int .i64 b, .func (.func F.cache_Cache_All_1) #[] #[]] σ K := by
  rw [← slices_insertionSortCmpFunc.m_eq] at h
  exact segF_spec Pr_mixed (hsel_sound fun x hx => by
    simp only [List.mem_cons, List.not_mem_nil, or_false] at hx
    subst hx
    exact slices_insertionSortCmpFunc.d1_ok fun _ _ _ _ _ _ _ ⟨n, h⟩ => slices_insertionSortCmpFunc.l1_ok K n _ _ _ _ _ _ _ h) h

/-! ### (*corral/cache.Cache).All$1 -/
def cache_Cache_All_1.H : Hints := { esc := [], cuts := [] }
noncomputable def cache_Cache_All_1.T : Nat → List Item := stk Pr F.cache_Cache_All_1 []
def cache_Cache_All_1.m (K : Value → Store → Prop) (a0 a1 a2 a3 a4 a5 b0 b1 b2 b3 b4 b5 : Int) (σ : Store) : Prop :=
  K (.int .i64 (IntKind.wrap .i64 (a0 - b0))) σ
noncomputable def cache_Cache_All_1.h (K : Value → Store → Prop) : Hand := hsel []
theorem cache_Cache_All_1.m_eq (K : Value → Store → Prop) (a0 a1 a2 a3 a4 a5 b0 b1 b2 b3 b4 b5 : Int) (σ : Store) : (segF Pr cache_Cache_All_1.H F.cache_Cache_All_1 cache_Cache_All_1.T (cache_Cache_All_1.h K) K [.agg #[.int .i64 a0, .int .i64 a1, .int .u32 a2, .int .u32 a3, .int .u32 a4, .int .u32 a5], .agg #[.int .i64 b0, .int .i64 b1, .int .u32 b2, .int .u32 b3, .int .u32 b4, .int .u32 b5]] σ) = cache_Cache_All_1.m K a0 a1 a2 a3 a4 a5 b0 b1 b2 b3 b4 b5 σ := by kernel_rfl
theorem cache_Cache_All_1.ok {K : Value → Store → Prop} {a0 a1 a2 a3 a4 a5 b0 b1 b2 b3 b4 b5 : Int} {σ : Store} (h : cache_Cache_All_1.m K a0 a1 a2 a3 a4 a5 b0 b1 b2 b3 b4 b5 σ) : Spec Pr F.cache_Cache_All_1 [.agg #[.int .i64 a0, .int .i64 a1, .int .u32 a2, .int .u32 a3, .int .u32 a4, .int .u32 a5], .agg #[.int .i64 b0, .int .i64 b1, .int .u32 b2, .int .u32 b3, .int .u32 b4, .int .u32 b5]] σ K := by
  rw [← cache_Cache_All_1.m_eq] at h
  exact segF_spec Pr_mixed (hsel_sound fun x hx => by
    cases hx) h

end Go.Ev
