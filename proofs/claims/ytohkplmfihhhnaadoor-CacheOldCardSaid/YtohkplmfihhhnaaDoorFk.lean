import Derived.Test.YtohkplmfihhhnaaDoorN
set_option linter.unusedVariables false
set_option maxRecDepth 100000
namespace Go.Ev
open Go
/-! ### corral/cache.New -/
def cache_New.H : Hints := { esc := [32], cuts := [(3, [0, 1], [])] }
noncomputable def cache_New.T : Nat → List Item := stk Pr F.cache_New [(3, [1, 1])]
abbrev cache_New.R3 : Type := Int → Int → Store → Prop
def cache_New.d3 (g : cache_New.R3) : List AV → List (List Value) → Store → Prop
  | [.v (.int .i64 sets), .v (.int .i64 ways)], [], σ => g sets ways σ
  | _, _, _ => False
def cache_New.S3 (K : Value → Store → Prop) (sets ways : Int) (σ : Store) : Prop := SndF Pr F.cache_New cache_New.H cache_New.T K 3 [.v (.int .i64 sets), .v (.int .i64 ways)] [] σ
def cache_New.j3 (K : Value → Store → Prop) (sets ways : Int) (σ : Store) : Prop :=
  MakeK 85 24 [.slice none 0 0] σ sets sets fun t30B t30N t30C σ_ =>
  New σ_ ⟨115, [.int .i64 ways, .slice (some ⟨t30B, 0, none⟩) t30N t30C], (0, 0)⟩ fun t32B σ_1 =>
  K (.tuple #[.pointer (some ⟨t32B, 0, none⟩), .nilIface]) σ_1
def cache_New.m (K : Value → Store → Prop) (sets ways : Int) (σ : Store) : Prop :=
  cond (decide (sets < 1))
  (∃ t27 : Value, cellAt σ 1 0 = some (t27) ∧
    K (.tuple #[.pointer none, t27]) σ)
  (cond (decide (sets > 64))
    (∃ t27_1 : Value, cellAt σ 1 0 = some (t27_1) ∧
      K (.tuple #[.pointer none, t27_1]) σ)
    (cond ((andI .i64 sets (IntKind.wrap .i64 (sets - 1))) != 0)
      (∃ t27_2 : Value, cellAt σ 1 0 = some (t27_2) ∧
        K (.tuple #[.pointer none, t27_2]) σ)
      (cond (decide (ways < 1))
        (∃ t27_3 : Value, cellAt σ 1 0 = some (t27_3) ∧
          K (.tuple #[.pointer none, t27_3]) σ)
        (cond (decide (ways > 8))
          (∃ t27_4 : Value, cellAt σ 1 0 = some (t27_4) ∧
            K (.tuple #[.pointer none, t27_4]) σ)
          (Hop (cache_New.T 3) (cache_New.T 3) (cache_New.j3 K sets ways σ))))))
theorem cache_New.d3_ok {K : Value → Store → Prop} {g : cache_New.R3} (hg : ∀ sets ways σ, g sets ways σ → cache_New.S3 K sets ways σ) (vs : List AV) (bs : List (List Value)) (σ : Store) (h : cache_New.d3 g vs bs σ) : SndF Pr F.cache_New cache_New.H cache_New.T K 3 vs bs σ := by
  unfold cache_New.d3 at h
  split at h
  · exact hg _ _ _ h
  · exact h.elim
noncomputable def cache_New.h3 (K : Value → Store → Prop) : Hand := hsel []
theorem cache_New.j3_eq (K : Value → Store → Prop) (sets ways : Int) (σ : Store) : (seg Pr cache_New.H F.cache_New cache_New.T (cache_New.h3 K ) K (cache_New.T 3) (Ev.cutE cache_New.H 3 [.v (.int .i64 sets), .v (.int .i64 ways)] []) σ) = cache_New.j3 K sets ways σ := by kernel_rfl
theorem cache_New.j3_ok (K : Value → Store → Prop) (sets ways : Int) (σ : Store) (h : cache_New.j3 K sets ways σ) : cache_New.S3 K sets ways σ := by
  rw [← cache_New.j3_eq] at h
  exact seg_snd Pr_mixed (hsel_sound fun x hx => by
    cases hx) h
noncomputable def cache_New.h (K : Value → Store → Prop) : Hand := hsel [(3, cache_New.d3 (cache_New.j3 K ))]
theorem cache_New.m_eq (K : Value → Store → Prop) (sets ways : Int) (σ : Store) : (segF Pr cache_New.H F.cache_New cache_New.T (cache_New.h K) K [.int .i64 sets, .int .i64 ways] σ) = cache_New.m K sets ways σ := by kernel_rfl
theorem cache_New.ok {K : Value → Store → Prop} {sets ways : Int} {σ : Store} (h : cache_New.m K sets ways σ) : Spec Pr F.cache_New [.int .i64 sets, .int .i64 ways] σ K := by
  rw [← cache_New.m_eq] at h
  exact segF_spec Pr_mixed (hsel_sound fun x hx => by
    simp only [List.mem_cons, List.not_mem_nil, or_false] at hx
    subst hx
    exact cache_New.d3_ok fun _ _ _ h => cache_New.j3_ok K _ _ _ h) h

/-! ### (*corral/cache.Cache).Room -/
def cache_Cache_Room.H : Hints := { esc := [], cuts := [] }
noncomputable def cache_Cache_Room.T : Nat → List Item := stk Pr F.cache_Cache_Room []
def cache_Cache_Room.m (K : Value → Store → Prop) (cB cO : Nat) (line : Int) (σ : Store) : Prop :=
  Spec Pr F.cache_Cache_at [.pointer (some ⟨cB, cO, none⟩), .int .i64 line] σ fun v σ_ => ∃ t10aP : Option Addr, ∃ t10b : Int, v = .tuple #[.pointer t10aP, .int .i64 t10b] ∧
  cond (decide (line ≥ 0))
  (cond (decide (t10b ≥ 0))
    (K (.bool true) σ_)
    (PtrNN t10aP fun t20B t20O =>
      ∃ t21A : Option Addr, ∃ t21N : Nat, ∃ t21C : Nat, cellAt σ_ t20B t20O = some (.slice t21A t21N t21C) ∧
      ∃ t26 : Int, cellAt σ_ cB cO = some (.int .i64 t26) ∧
      K (.bool (decide (((t21N : Nat) : Int) < t26))) σ_))
  (K (.bool false) σ_)
noncomputable def cache_Cache_Room.h (K : Value → Store → Prop) : Hand := hsel []
theorem cache_Cache_Room.m_eq (K : Value → Store → Prop) (cB cO : Nat) (line : Int) (σ : Store) : (segF Pr cache_Cache_Room.H F.cache_Cache_Room cache_Cache_Room.T (cache_Cache_Room.h K) K [.pointer (some ⟨cB, cO, none⟩), .int .i64 line] σ) = cache_Cache_Room.m K cB cO line σ := by kernel_rfl
theorem cache_Cache_Room.ok {K : Value → Store → Prop} {cB cO : Nat} {line : Int} {σ : Store} (h : cache_Cache_Room.m K cB cO line σ) : Spec Pr F.cache_Cache_Room [.pointer (some ⟨cB, cO, none⟩), .int .i64 line] σ K := by
  rw [← cache_Cache_Room.m_eq] at h
  exact segF_spec Pr_mixed (hsel_sound fun x hx => by
    cases hx) h

/-! ### (*corral/cache.Cache).Put -/
def cache_Cache_Put.H : Hints := { esc := [], cuts := [(5, [0], [(3, 59)]), (8, [5, 6], [(3, 59)])] }
noncomputable def cache_Cache_Put.T : Nat → List Item := stk Pr F.cache_Cache_Put [(5, [1, 1]), (8, [1, 1, 1, 1])]
abbrev cache_Cache_Put.R8 : Type := Option Addr → Int → Int → Int → Int → Int → Int → Int → Store → Prop
abbrev cache_Cache_Put.R5 : Type := Nat → Nat → Int → Int → Int → Int → Int → Int → Store → Prop
def cache_Cache_Put.d8 (g : cache_Cache_Put.R8) : List AV → List (List Value) → Store → Prop
  | [.v (.pointer setP), .v (.int .i64 k)], [[.int .i64 e0, .int .i64 e1, .int .u32 e2, .int .u32 e3, .int .u32 e4, .int .u32 e5]], σ => g setP k e0 e1 e2 e3 e4 e5 σ
  | _, _, _ => False
def cache_Cache_Put.S8 (K : Value → Store → Prop) (setP : Option Addr) (k e0 e1 e2 e3 e4 e5 : Int) (σ : Store) : Prop := SndF Pr F.cache_Cache_Put cache_Cache_Put.H cache_Cache_Put.T K 8 [.v (.pointer setP), .v (.int .i64 k)] [[.int .i64 e0, .int .i64 e1, .int .u32 e2, .int .u32 e3, .int .u32 e4, .int .u32 e5]] σ
def cache_Cache_Put.j8 (K : Value → Store → Prop) (setP : Option Addr) (k e0 e1 e2 e3 e4 e5 : Int) (σ : Store) : Prop :=
  Spec Pr F.cache_last [.pointer setP, .int .i64 k, .agg #[.int .i64 e0, .int .i64 e1, .int .u32 e2, .int .u32 e3, .int .u32 e4, .int .u32 e5]] σ fun v σ_ => v = .tuple #[] ∧
  K (.nilIface) σ_
def cache_Cache_Put.d5 (g : cache_Cache_Put.R5) : List AV → List (List Value) → Store → Prop
  | [.v (.pointer (some ⟨cB, cO, none⟩))], [[.int .i64 e0, .int .i64 e1, .int .u32 e2, .int .u32 e3, .int .u32 e4, .int .u32 e5]], σ => g cB cO e0 e1 e2 e3 e4 e5 σ
  | _, _, _ => False
def cache_Cache_Put.S5 (K : Value → Store → Prop) (cB cO : Nat) (e0 e1 e2 e3 e4 e5 : Int) (σ : Store) : Prop := SndF Pr F.cache_Cache_Put cache_Cache_Put.H cache_Cache_Put.T K 5 [.v (.pointer (some ⟨cB, cO, none⟩))] [[.int .i64 e0, .int .i64 e1, .int .u32 e2, .int .u32 e3, .int .u32 e4, .int .u32 e5]] σ
def cache_Cache_Put.j5 (K : Value → Store → Prop) (cB cO : Nat) (e0 e1 e2 e3 e4 e5 : Int) (σ : Store) : Prop :=
  Spec Pr F.cache_Cache_at [.pointer (some ⟨cB, cO, none⟩), .int .i64 e0] σ fun v σ_ => ∃ t26aP : Option Addr, ∃ t26b : Int, v = .tuple #[.pointer t26aP, .int .i64 t26b] ∧
  cond (decide (t26b < 0))
  (PtrNN t26aP fun t33B t33O =>
    ∃ t34A : Option Addr, ∃ t34N : Nat, ∃ t34C : Nat, cellAt σ_ t33B t33O = some (.slice t34A t34N t34C) ∧
    ∃ t39 : Int, cellAt σ_ cB cO = some (.int .i64 t39) ∧
    cond (decide (((t34N : Nat) : Int) ≥ t39))
    (∃ t42 : Value, cellAt σ_ 3 0 = some (t42) ∧
      K (t42) σ_)
    (Hop (cache_Cache_Put.T 8) (cache_Cache_Put.T 8) (cache_Cache_Put.j8 K t26aP t26b e0 e1 e2 e3 e4 e5 σ_)))
  (Hop (cache_Cache_Put.T 8) (cache_Cache_Put.T 8) (cache_Cache_Put.j8 K t26aP t26b e0 e1 e2 e3 e4 e5 σ_))
def cache_Cache_Put.m (K : Value → Store → Prop) (cB cO : Nat) (e0 e1 e2 e3 e4 e5 : Int) (σ : Store) : Prop :=
  cond (decide (e0 < 0))
  (∃ t11 : Value, cellAt σ 1 0 = some (t11) ∧
    K (t11) σ)
  (cond (decide (e1 < 1))
    (∃ t21 : Value, cellAt σ 0 0 = some (t21) ∧
      K (t21) σ)
    (cond (decide (e1 > 4))
      (∃ t21_1 : Value, cellAt σ 0 0 = some (t21_1) ∧
        K (t21_1) σ)
      (Hop (cache_Cache_Put.T 5) (cache_Cache_Put.T 5) (cache_Cache_Put.j5 K cB cO e0 e1 e2 e3 e4 e5 σ))))
theorem cache_Cache_Put.d8_ok {K : Value → Store → Prop} {g : cache_Cache_Put.R8} (hg : ∀ setP k e0 e1 e2 e3 e4 e5 σ, g setP k e0 e1 e2 e3 e4 e5 σ → cache_Cache_Put.S8 K setP k e0 e1 e2 e3 e4 e5 σ) (vs : List AV) (bs : List (List Value)) (σ : Store) (h : cache_Cache_Put.d8 g vs bs σ) : SndF Pr F.cache_Cache_Put cache_Cache_Put.H cache_Cache_Put.T K 8 vs bs σ := by
  unfold cache_Cache_Put.d8 at h
  split at h
  · exact hg _ _ _ _ _ _ _ _ _ h
  · exact h.elim
theorem cache_Cache_Put.d5_ok {K : Value → Store → Prop} {g : cache_Cache_Put.R5} (hg : ∀ cB cO e0 e1 e2 e3 e4 e5 σ, g cB cO e0 e1 e2 e3 e4 e5 σ → cache_Cache_Put.S5 K cB cO e0 e1 e2 e3 e4 e5 σ) (vs : List AV) (bs : List (List Value)) (σ : Store) (h : cache_Cache_Put.d5 g vs bs σ) : SndF Pr F.cache_Cache_Put cache_Cache_Put.H cache_Cache_Put.T K 5 vs bs σ := by
  unfold cache_Cache_Put.d5 at h
  split at h
  · exact hg _ _ _ _ _ _ _ _ _ h
  · exact h.elim
noncomputable def cache_Cache_Put.h8 (K : Value → Store → Prop) : Hand := hsel []
theorem cache_Cache_Put.j8_eq (K : Value → Store → Prop) (setP : Option Addr) (k e0 e1 e2 e3 e4 e5 : Int) (σ : Store) : (seg Pr cache_Cache_Put.H F.cache_Cache_Put cache_Cache_Put.T (cache_Cache_Put.h8 K ) K (cache_Cache_Put.T 8) (Ev.cutE cache_Cache_Put.H 8 [.v (.pointer setP), .v (.int .i64 k)] [[.int .i64 e0, .int .i64 e1, .int .u32 e2, .int .u32 e3, .int .u32 e4, .int .u32 e5]]) σ) = cache_Cache_Put.j8 K setP k e0 e1 e2 e3 e4 e5 σ := by kernel_rfl
theorem cache_Cache_Put.j8_ok (K : Value → Store → Prop) (setP : Option Addr) (k e0 e1 e2 e3 e4 e5 : Int) (σ : Store) (h : cache_Cache_Put.j8 K setP k e0 e1 e2 e3 e4 e5 σ) : cache_Cache_Put.S8 K setP k e0 e1 e2 e3 e4 e5 σ := by
  rw [← cache_Cache_Put.j8_eq] at h
  exact seg_snd Pr_mixed (hsel_sound fun x hx => by
    cases hx) h
noncomputable def cache_Cache_Put.h5 (K : Value → Store → Prop) : Hand := hsel [(8, cache_Cache_Put.d8 (cache_Cache_Put.j8 K ))]
theorem cache_Cache_Put.j5_eq (K : Value → Store → Prop) (cB cO : Nat) (e0 e1 e2 e3 e4 e5 : Int) (σ : Store) : (seg Pr cache_Cache_Put.H F.cache_Cache_Put cache_Cache_Put.T (cache_Cache_Put.h5 K ) K (cache_Cache_Put.T 5) (Ev.cutE cache_Cache_Put.H 5 [.v (.pointer (some ⟨cB, cO, none⟩))] [[.int .i64 e0, .int .i64 e1, .int .u32 e2, .int .u32 e3, .int .u32 e4, .int .u32 e5]]) σ) = cache_Cache_Put.j5 K cB cO e0 e1 e2 e3 e4 e5 σ := by kernel_rfl
theorem cache_Cache_Put.j5_ok (K : Value → Store → Prop) (cB cO : Nat) (e0 e1 e2 e3 e4 e5 : Int) (σ : Store) (h : cache_Cache_Put.j5 K cB cO e0 e1 e2 e3 e4 e5 σ) : cache_Cache_Put.S5 K cB cO e0 e1 e2 e3 e4 e5 σ := by
  rw [← cache_Cache_Put.j5_eq] at h
  exact seg_snd Pr_mixed (hsel_sound fun x hx => by
    simp only [List.mem_cons, List.not_mem_nil, or_false] at hx
    subst hx
    exact cache_Cache_Put.d8_ok fun _ _ _ _ _ _ _ _ _ h => cache_Cache_Put.j8_ok K _ _ _ _ _ _ _ _ _ h) h
noncomputable def cache_Cache_Put.h (K : Value → Store → Prop) : Hand := hsel [(5, cache_Cache_Put.d5 (cache_Cache_Put.j5 K ))]
theorem cache_Cache_Put.m_eq (K : Value → Store → Prop) (cB cO : Nat) (e0 e1 e2 e3 e4 e5 : Int) (σ : Store) : (segF Pr cache_Cache_Put.H F.cache_Cache_Put cache_Cache_Put.T (cache_Cache_Put.h K) K [.pointer (some ⟨cB, cO, none⟩), .agg #[.int .i64 e0, .int .i64 e1, .int .u32 e2, .int .u32 e3, .int .u32 e4, .int .u32 e5]] σ) = cache_Cache_Put.m K cB cO e0 e1 e2 e3 e4 e5 σ := by kernel_rfl
theorem cache_Cache_Put.ok {K : Value → Store → Prop} {cB cO : Nat} {e0 e1 e2 e3 e4 e5 : Int} {σ : Store} (h : cache_Cache_Put.m K cB cO e0 e1 e2 e3 e4 e5 σ) : Spec Pr F.cache_Cache_Put [.pointer (some ⟨cB, cO, none⟩), .agg #[.int .i64 e0, .int .i64 e1, .int .u32 e2, .int .u32 e3, .int .u32 e4, .int .u32 e5]] σ K := by
  rw [← cache_Cache_Put.m_eq] at h
  exact segF_spec Pr_mixed (hsel_sound fun x hx => by
    simp only [List.mem_cons, List.not_mem_nil, or_false] at hx
    subst hx
    exact cache_Cache_Put.d5_ok fun _ _ _ _ _ _ _ _ _ h => cache_Cache_Put.j5_ok K _ _ _ _ _ _ _ _ _ h) h

/-! ### (*corral/cache.Cache).Find -/
def cache_Cache_Find.H : Hints := { esc := [], cuts := [] }
noncomputable def cache_Cache_Find.T : Nat → List Item := stk Pr F.cache_Cache_Find []
def cache_Cache_Find.m (K : Value → Store → Prop) (cB cO : Nat) (line : Int) (σ : Store) : Prop :=
  Spec Pr F.cache_Cache_at [.pointer (some ⟨cB, cO, none⟩), .int .i64 line] σ fun v σ_ => ∃ t11aP : Option Addr, ∃ t11b : Int, v = .tuple #[.pointer t11aP, .int .i64 t11b] ∧
  cond (decide (t11b < 0))
  (K (.tuple #[.agg #[.int .i64 0, .int .i64 0, .int .u32 0, .int .u32 0, .int .u32 0, .int .u32 0], .bool false]) σ_)
  (PtrNN t11aP fun t18B t18O =>
    ∃ t19A : Option Addr, ∃ t19N : Nat, ∃ t19C : Nat, cellAt σ_ t18B t18O = some (.slice t19A t19N t19C) ∧
    Req (decide (0 ≤ t11b) && decide (t11b < ((t19N : Nat) : Int))) (
      PtrNN t19A fun t21B t21O =>
      ∃ t220 : Int, ∃ t221 : Int, ∃ t222 : Int, ∃ t223 : Int, ∃ t224 : Int, ∃ t225 : Int, cellsAt σ_ t21B (t21O + t11b.toNat * 6) 6 = some [.int .i64 t220, .int .i64 t221, .int .u32 t222, .int .u32 t223, .int .u32 t224, .int .u32 t225] ∧
      K (.tuple #[.agg #[.int .i64 t220, .int .i64 t221, .int .u32 t222, .int .u32 t223, .int .u32 t224, .int .u32 t225], .bool true]) σ_))
noncomputable def cache_Cache_Find.h (K : Value → Store → Prop) : Hand := hsel []
theorem cache_Cache_Find.m_eq (K : Value → Store → Prop) (cB cO : Nat) (line : Int) (σ : Store) : (segF Pr cache_Cache_Find.H F.cache_Cache_Find cache_Cache_Find.T (cache_Cache_Find.h K) K [.pointer (some ⟨cB, cO, none⟩), .int .i64 line] σ) = cache_Cache_Find.m K cB cO line σ := by kernel_rfl
theorem cache_Cache_Find.ok {K : Value → Store → Prop} {cB cO : Nat} {line : Int} {σ : Store} (h : cache_Cache_Find.m K cB cO line σ) : Spec Pr F.cache_Cache_Find [.pointer (some ⟨cB, cO, none⟩), .int .i64 line] σ K := by
  rw [← cache_Cache_Find.m_eq] at h
  exact segF_spec Pr_mixed (hsel_sound fun x hx => by
    cases hx) h

/-! ### (*corral/cache.Cache).Len -/
def cache_Cache_Len.H : Hints := { esc := [], cuts := [] }
noncomputable def cache_Cache_Len.T : Nat → List Item := stk Pr F.cache_Cache_Len []
def cache_Cache_Len.m (K : Value → Store → Prop) (cB cO : Nat) (σ : Store) : Prop :=
  Spec Pr F.cache_Cache_All [.pointer (some ⟨cB, cO, none⟩)] σ fun v σ_ => ∃ t4A : Option Addr, ∃ t4N : Nat, ∃ t4C : Nat, v = .slice t4A t4N t4C ∧
  K (.int .i64 ((t4N : Nat) : Int)) σ_
noncomputable def cache_Cache_Len.h (K : Value → Store → Prop) : Hand := hsel []
theorem cache_Cache_Len.m_eq (K : Value → Store → Prop) (cB cO : Nat) (σ : Store) : (segF Pr cache_Cache_Len.H F.cache_Cache_Len cache_Cache_Len.T (cache_Cache_Len.h K) K [.pointer (some ⟨cB, cO, none⟩)] σ) = cache_Cache_Len.m K cB cO σ := by kernel_rfl
theorem cache_Cache_Len.ok {K : Value → Store → Prop} {cB cO : Nat} {σ : Store} (h : cache_Cache_Len.m K cB cO σ) : Spec Pr F.cache_Cache_Len [.pointer (some ⟨cB, cO, none⟩)] σ K := by
  rw [← cache_Cache_Len.m_eq] at h
  exact segF_spec Pr_mixed (hsel_sound fun x hx => by
    cases hx) h

/-! ### (*corral/cache.Cache).Use -/
def cache_Cache_Use.H : Hints := { esc := [], cuts := [] }
noncomputable def cache_Cache_Use.T : Nat → List Item := stk Pr F.cache_Cache_Use []
def cache_Cache_Use.m (K : Value → Store → Prop) (cB cO : Nat) (line : Int) (σ : Store) : Prop :=
  Spec Pr F.cache_Cache_at [.pointer (some ⟨cB, cO, none⟩), .int .i64 line] σ fun v σ_ => ∃ t10aP : Option Addr, ∃ t10b : Int, v = .tuple #[.pointer t10aP, .int .i64 t10b] ∧
  cond (decide (t10b < 0))
  (K (.bool false) σ_)
  (PtrNN t10aP fun t18B t18O =>
    ∃ t19A : Option Addr, ∃ t19N : Nat, ∃ t19C : Nat, cellAt σ_ t18B t18O = some (.slice t19A t19N t19C) ∧
    Req (decide (0 ≤ t10b) && decide (t10b < ((t19N : Nat) : Int))) (
      PtrNN t19A fun t21B t21O =>
      ∃ t220 : Int, ∃ t221 : Int, ∃ t222 : Int, ∃ t223 : Int, ∃ t224 : Int, ∃ t225 : Int, cellsAt σ_ t21B (t21O + t10b.toNat * 6) 6 = some [.int .i64 t220, .int .i64 t221, .int .u32 t222, .int .u32 t223, .int .u32 t224, .int .u32 t225] ∧
      Spec Pr F.cache_last [.pointer t10aP, .int .i64 t10b, .agg #[.int .i64 t220, .int .i64 t221, .int .u32 t222, .int .u32 t223, .int .u32 t224, .int .u32 t225]] σ_ fun v1 σ_1 => v1 = .tuple #[] ∧
      K (.bool true) σ_1))
noncomputable def cache_Cache_Use.h (K : Value → Store → Prop) : Hand := hsel []
theorem cache_Cache_Use.m_eq (K : Value → Store → Prop) (cB cO : Nat) (line : Int) (σ : Store) : (segF Pr cache_Cache_Use.H F.cache_Cache_Use cache_Cache_Use.T (cache_Cache_Use.h K) K [.pointer (some ⟨cB, cO, none⟩), .int .i64 line] σ) = cache_Cache_Use.m K cB cO line σ := by kernel_rfl
theorem cache_Cache_Use.ok {K : Value → Store → Prop} {cB cO : Nat} {line : Int} {σ : Store} (h : cache_Cache_Use.m K cB cO line σ) : Spec Pr F.cache_Cache_Use [.pointer (some ⟨cB, cO, none⟩), .int .i64 line] σ K := by
  rw [← cache_Cache_Use.m_eq] at h
  exact segF_spec Pr_mixed (hsel_sound fun x hx => by
    cases hx) h

/-! ### (*corral/cache.Cache).Victim -/
def cache_Cache_Victim.H : Hints := { esc := [], cuts := [(5, [2, 23, 24, 25], [(6, 59)]), (10, [], [(6, 59)])] }
noncomputable def cache_Cache_Victim.T : Nat → List Item := stk Pr F.cache_Cache_Victim [(5, [1, 1, 1, 0, 1, 0, 0]), (10, [1, 1, 1, 1])]
abbrev cache_Cache_Victim.R10 : Type := Int → Int → Int → Int → Int → Int → Store → Prop
abbrev cache_Cache_Victim.R5 : Type := Option Addr → Nat → Nat → Option Addr → Nat → Nat → Int → Int → Int → Int → Int → Int → Int → Int → Store → Prop
def cache_Cache_Victim.d10 (g : cache_Cache_Victim.R10) : List AV → List (List Value) → Store → Prop
  | [], [[.int .i64 t60, .int .i64 t61, .int .u32 t62, .int .u32 t63, .int .u32 t64, .int .u32 t65]], σ => g t60 t61 t62 t63 t64 t65 σ
  | _, _, _ => False
def cache_Cache_Victim.S10 (K : Value → Store → Prop) (t60 t61 t62 t63 t64 t65 : Int) (σ : Store) : Prop := SndF Pr F.cache_Cache_Victim cache_Cache_Victim.H cache_Cache_Victim.T K 10 [] [[.int .i64 t60, .int .i64 t61, .int .u32 t62, .int .u32 t63, .int .u32 t64, .int .u32 t65]] σ
def cache_Cache_Victim.j10 (K : Value → Store → Prop) (t60 t61 t62 t63 t64 t65 : Int) (σ : Store) : Prop :=
  K (.tuple #[.agg #[.int .i64 0, .int .i64 0, .int .u32 0, .int .u32 0, .int .u32 0, .int .u32 0], .bool false]) σ
def cache_Cache_Victim.d5 (g : cache_Cache_Victim.R5) : List AV → List (List Value) → Store → Prop
  | [.v (.slice notA notN notC), .v (.slice t23A t23N t23C), .v (.int .i64 t24), .v (.int .i64 t25)], [[.int .i64 t60, .int .i64 t61, .int .u32 t62, .int .u32 t63, .int .u32 t64, .int .u32 t65]], σ => g notA notN notC t23A t23N t23C t24 t25 t60 t61 t62 t63 t64 t65 σ
  | _, _, _ => False
def cache_Cache_Victim.S5 (K : Value → Store → Prop) (notA : Option Addr) (notN notC : Nat) (t23A : Option Addr) (t23N t23C : Nat) (t24 t25 t60 t61 t62 t63 t64 t65 : Int) (σ : Store) : Prop := SndF Pr F.cache_Cache_Victim cache_Cache_Victim.H cache_Cache_Victim.T K 5 [.v (.slice notA notN notC), .v (.slice t23A t23N t23C), .v (.int .i64 t24), .v (.int .i64 t25)] [[.int .i64 t60, .int .i64 t61, .int .u32 t62, .int .u32 t63, .int .u32 t64, .int .u32 t65]] σ
def cache_Cache_Victim.b5 (K : Value → Store → Prop) (rr5 : cache_Cache_Victim.R5) (notA : Option Addr) (notN notC : Nat) (t23A : Option Addr) (t23N t23C : Nat) (t24 t25 t60 t61 t62 t63 t64 t65 : Int) (σ : Store) : Prop :=
  cond (decide (t25 < t24))
  (Req (decide (0 ≤ t25) && decide (t25 < ((t23N : Nat) : Int))) (
      PtrNN t23A fun t27B t27O =>
      ∃ t280 : Int, ∃ t281 : Int, ∃ t282 : Int, ∃ t283 : Int, ∃ t284 : Int, ∃ t285 : Int, cellsAt σ t27B (t27O + t25.toNat * 6) 6 = some [.int .i64 t280, .int .i64 t281, .int .u32 t282, .int .u32 t283, .int .u32 t284, .int .u32 t285] ∧
      Spec Pr F.slices_Contains [.slice notA notN notC, .int .i64 t280] σ fun v σ_ => ∃ t32 : Bool, v = .bool t32 ∧
      cond (!t32)
      (K (.tuple #[.agg #[.int .i64 t280, .int .i64 t281, .int .u32 t282, .int .u32 t283, .int .u32 t284, .int .u32 t285], .bool true]) σ_)
      (Hop (cache_Cache_Victim.T 5) (cache_Cache_Victim.T 5) (rr5 notA notN notC t23A t23N t23C t24 (IntKind.wrap .i64 (t25 + 1)) t60 t61 t62 t63 t64 t65 σ_))))
  (Hop (cache_Cache_Victim.T 10) (cache_Cache_Victim.T 10) (cache_Cache_Victim.j10 K t60 t61 t62 t63 t64 t65 σ))
def cache_Cache_Victim.l5 (K : Value → Store → Prop) : Nat → cache_Cache_Victim.R5
  | 0, _, _, _, _, _, _, _, _, _, _, _, _, _, _, _ => False
  | n + 1, notA, notN, notC, t23A, t23N, t23C, t24, t25, t60, t61, t62, t63, t64, t65, σ => cache_Cache_Victim.b5 K (cache_Cache_Victim.l5 K n) notA notN notC t23A t23N t23C t24 t25 t60 t61 t62 t63 t64 t65 σ
def cache_Cache_Victim.m (K : Value → Store → Prop) (cB cO : Nat) (line : Int) (notA : Option Addr) (notN notC : Nat) (σ : Store) : Prop :=
  cond (decide (line < 0))
  (K (.tuple #[.agg #[.int .i64 0, .int .i64 0, .int .u32 0, .int .u32 0, .int .u32 0, .int .u32 0], .bool false]) σ)
  (Spec Pr F.cache_Cache_at [.pointer (some ⟨cB, cO, none⟩), .int .i64 line] σ fun v σ_ => ∃ t18aP : Option Addr, ∃ t18b : Int, v = .tuple #[.pointer t18aP, .int .i64 t18b] ∧
    PtrNN t18aP fun t22B t22O =>
    ∃ t23A : Option Addr, ∃ t23N : Nat, ∃ t23C : Nat, cellAt σ_ t22B t22O = some (.slice t23A t23N t23C) ∧
    Hop (cache_Cache_Victim.T 5) (cache_Cache_Victim.T 5) (∃ n : Nat, cache_Cache_Victim.l5 K n notA notN notC t23A t23N t23C ((t23N : Nat) : Int) 0 0 0 0 0 0 0 σ_))
theorem cache_Cache_Victim.d10_ok {K : Value → Store → Prop} {g : cache_Cache_Victim.R10} (hg : ∀ t60 t61 t62 t63 t64 t65 σ, g t60 t61 t62 t63 t64 t65 σ → cache_Cache_Victim.S10 K t60 t61 t62 t63 t64 t65 σ) (vs : List AV) (bs : List (List Value)) (σ : Store) (h : cache_Cache_Victim.d10 g vs bs σ) : SndF Pr F.cache_Cache_Victim cache_Cache_Victim.H cache_Cache_Victim.T K 10 vs bs σ := by
  unfold cache_Cache_Victim.d10 at h
  split at h
  · exact hg _ _ _ _ _ _ _ h
  · exact h.elim
theorem cache_Cache_Victim.d5_ok {K : Value → Store → Prop} {g : cache_Cache_Victim.R5} (hg : ∀ notA notN notC t23A t23N t23C t24 t25 t60 t61 t62 t63 t64 t65 σ, g notA notN notC t23A t23N t23C t24 t25 t60 t61 t62 t63 t64 t65 σ → cache_Cache_Victim.S5 K notA notN notC t23A t23N t23C t24 t25 t60 t61 t62 t63 t64 t65 σ) (vs : List AV) (bs : List (List Value)) (σ : Store) (h : cache_Cache_Victim.d5 g vs bs σ) : SndF Pr F.cache_Cache_Victim cache_Cache_Victim.H cache_Cache_Victim.T K 5 vs bs σ := by
  unfold cache_Cache_Victim.d5 at h
  split at h
  · exact hg _ _ _ _ _ _ _ _ _ _ _ _ _ _ _ h
  · exact h.elim
noncomputable def cache_Cache_Victim.h10 (K : Value → Store → Prop) : Hand := hsel []
theorem cache_Cache_Victim.j10_eq (K : Value → Store → Prop) (t60 t61 t62 t63 t64 t65 : Int) (σ : Store) : (seg Pr cache_Cache_Victim.H F.cache_Cache_Victim cache_Cache_Victim.T (cache_Cache_Victim.h10 K ) K (cache_Cache_Victim.T 10) (Ev.cutE cache_Cache_Victim.H 10 [] [[.int .i64 t60, .int .i64 t61, .int .u32 t62, .int .u32 t63, .int .u32 t64, .int .u32 t65]]) σ) = cache_Cache_Victim.j10 K t60 t61 t62 t63 t64 t65 σ := by kernel_rfl
theorem cache_Cache_Victim.j10_ok (K : Value → Store → Prop) (t60 t61 t62 t63 t64 t65 : Int) (σ : Store) (h : cache_Cache_Victim.j10 K t60 t61 t62 t63 t64 t65 σ) : cache_Cache_Victim.S10 K t60 t61 t62 t63 t64 t65 σ := by
  rw [← cache_Cache_Victim.j10_eq] at h
  exact seg_snd Pr_mixed (hsel_sound fun x hx => by
    cases hx) h
noncomputable def cache_Cache_Victim.h5 (K : Value → Store → Prop) (rr5 : cache_Cache_Victim.R5) : Hand := hsel [(10, cache_Cache_Victim.d10 (cache_Cache_Victim.j10 K )), (5, cache_Cache_Victim.d5 rr5)]
theorem cache_Cache_Victim.b5_eq (K : Value → Store → Prop) (rr5 : cache_Cache_Victim.R5) (notA : Option Addr) (notN notC : Nat) (t23A : Option Addr) (t23N t23C : Nat) (t24 t25 t60 t61 t62 t63 t64 t65 : Int) (σ : Store) : (seg Pr cache_Cache_Victim.H F.cache_Cache_Victim cache_Cache_Victim.T (cache_Cache_Victim.h5 K rr5) K (cache_Cache_Victim.T 5) (Ev.cutE cache_Cache_Victim.H 5 [.v (.slice notA notN notC), .v (.slice t23A t23N t23C), .v (.int .i64 t24), .v (.int .i64 t25)] [[.int .i64 t60, .int .i64 t61, .int .u32 t62, .int .u32 t63, .int .u32 t64, .int .u32 t65]]) σ) = cache_Cache_Victim.b5 K rr5 notA notN notC t23A t23N t23C t24 t25 t60 t61 t62 t63 t64 t65 σ := by kernel_rfl
theorem cache_Cache_Victim.b5_ok (K : Value → Store → Prop) (rr5 : cache_Cache_Victim.R5) (hh5 : ∀ notA notN notC t23A t23N t23C t24 t25 t60 t61 t62 t63 t64 t65 σ, rr5 notA notN notC t23A t23N t23C t24 t25 t60 t61 t62 t63 t64 t65 σ → cache_Cache_Victim.S5 K notA notN notC t23A t23N t23C t24 t25 t60 t61 t62 t63 t64 t65 σ) (notA : Option Addr) (notN notC : Nat) (t23A : Option Addr) (t23N t23C : Nat) (t24 t25 t60 t61 t62 t63 t64 t65 : Int) (σ : Store) (h : cache_Cache_Victim.b5 K rr5 notA notN notC t23A t23N t23C t24 t25 t60 t61 t62 t63 t64 t65 σ) : cache_Cache_Victim.S5 K notA notN notC t23A t23N t23C t24 t25 t60 t61 t62 t63 t64 t65 σ := by
  rw [← cache_Cache_Victim.b5_eq] at h
  exact seg_snd Pr_mixed (hsel_sound fun x hx => by
    simp only [List.mem_cons, List.not_mem_nil, or_false] at hx
    rcases hx with rfl | rfl
    · exact cache_Cache_Victim.d10_ok fun _ _ _ _ _ _ _ h => cache_Cache_Victim.j10_ok K _ _ _ _ _ _ _ h
    · exact cache_Cache_Victim.d5_ok hh5) h
theorem cache_Cache_Victim.l5_ok (K : Value → Store → Prop) : ∀ (n : Nat) (notA : Option Addr) (notN notC : Nat) (t23A : Option Addr) (t23N t23C : Nat) (t24 t25 t60 t61 t62 t63 t64 t65 : Int) (σ : Store), cache_Cache_Victim.l5 K n notA notN notC t23A t23N t23C t24 t25 t60 t61 t62 t63 t64 t65 σ → cache_Cache_Victim.S5 K notA notN notC t23A t23N t23C t24 t25 t60 t61 t62 t63 t64 t65 σ
  | 0, _, _, _, _, _, _, _, _, _, _, _, _, _, _, _, h => h.elim
  | n + 1, _, _, _, _, _, _, _, _, _, _, _, _, _, _, _, h => cache_Cache_Victim.b5_ok K (cache_Cache_Victim.l5 K n) (cache_Cache_Victim.l5_ok K n) _ _ _ _ _ _ _ _ _ _ _ _ _ _ _ h
noncomputable def cache_Cache_Victim.h (K : Value → Store → Prop) : Hand := hsel [(5, cache_Cache_Victim.d5 fun notA notN notC t23A t23N t23C t24 t25 t60 t61 t62 t63 t64 t65 σ => ∃ n : Nat, cache_Cache_Victim.l5 K n notA notN notC t23A t23N t23C t24 t25 t60 t61 t62 t63 t64 t65 σ)]
theorem cache_Cache_Victim.m_eq (K : Value → Store → Prop) (cB cO : Nat) (line : Int) (notA : Option Addr) (notN notC : Nat) (σ : Store) : (segF Pr cache_Cache_Victim.H F.cache_Cache_Victim cache_Cache_Victim.T (cache_Cache_Victim.h K) K [.pointer (some ⟨cB, cO, none⟩), .int .i64 line, .slice notA notN notC] σ) = cache_Cache_Victim.m K cB cO line notA notN notC σ := by kernel_rfl
theorem cache_Cache_Victim.ok {K : Value → Store → Prop} {cB cO : Nat} {line : Int} {notA : Option Addr} {notN notC : Nat} {σ : Store} (h : cache_Cache_Victim.m K cB cO line notA notN notC σ) : Spec Pr F.cache_Cache_Victim [.pointer (some ⟨cB, cO, none⟩), .int .i64 line, .slice notA notN notC] σ K := by
  rw [← cache_Cache_Victim.m_eq] at h
  exact segF_spec Pr_mixed (hsel_sound fun x hx => by
    simp only [List.mem_cons, List.not_mem_nil, or_false] at hx
    subst hx
    exact cache_Cache_Victim.d5_ok fun _ _ _ _ _ _ _ _ _ _ _ _ _ _ _ ⟨n, h⟩ => cache_Cache_Victim.l5_ok K n _ _ _ _ _ _ _ _ _ _ _ _ _ _ _ h) h

/-! ### (*corral/cache.Cache).Drop -/
def cache_Cache_Drop.H : Hints := { esc := [27], cuts := [] }
noncomputable def cache_Cache_Drop.T : Nat → List Item := stk Pr F.cache_Cache_Drop []
def cache_Cache_Drop.m (K : Value → Store → Prop) (cB cO : Nat) (line : Int) (σ : Store) : Prop :=
  Spec Pr F.cache_Cache_at [.pointer (some ⟨cB, cO, none⟩), .int .i64 line] σ fun v σ_ => ∃ t10aP : Option Addr, ∃ t10b : Int, v = .tuple #[.pointer t10aP, .int .i64 t10b] ∧
  cond (decide (t10b < 0))
  (K (.bool false) σ_)
  (PtrNN t10aP fun t17B t17O =>
    ∃ t18A : Option Addr, ∃ t18N : Nat, ∃ t18C : Nat, cellAt σ_ t17B t17O = some (.slice t18A t18N t18C) ∧
    Req (okIdx t10b t18C) (
      PtrNN t10aP fun t22B t22O =>
      ∃ t23A : Option Addr, ∃ t23N : Nat, ∃ t23C : Nat, cellAt σ_ t22B t22O = some (.slice t23A t23N t23C) ∧
      Req (okIdx (IntKind.wrap .i64 (t10b + 1)) t23N) (
        New σ_ ⟨85, [.slice (slAddr t18A 0 t18C 6) t10b.toNat t18C, .slice (slAddr t23A ((IntKind.wrap .i64 (t10b + 1)).toNat) t23C 6) (t23N - ((IntKind.wrap .i64 (t10b + 1)).toNat)) (t23C - ((IntKind.wrap .i64 (t10b + 1)).toNat))], (0, 0)⟩ fun t27B σ_1 =>
        Spec Pr F.slices_Concat [.slice (some ⟨t27B, 0, none⟩) 2 2] σ_1 fun v1 σ_2 => ∃ t28A : Option Addr, ∃ t28N : Nat, ∃ t28C : Nat, v1 = .slice t28A t28N t28C ∧
        PtrNN t10aP fun t29B t29O =>
        StoreK σ_2 t29B t29O 1 [.slice t28A t28N t28C] fun σ_3 =>
        K (.bool true) σ_3)))
noncomputable def cache_Cache_Drop.h (K : Value → Store → Prop) : Hand := hsel []
theorem cache_Cache_Drop.m_eq (K : Value → Store → Prop) (cB cO : Nat) (line : Int) (σ : Store) : (segF Pr cache_Cache_Drop.H F.cache_Cache_Drop cache_Cache_Drop.T (cache_Cache_Drop.h K) K [.pointer (some ⟨cB, cO, none⟩), .int .i64 line] σ) = cache_Cache_Drop.m K cB cO line σ := by kernel_rfl
theorem cache_Cache_Drop.ok {K : Value → Store → Prop} {cB cO : Nat} {line : Int} {σ : Store} (h : cache_Cache_Drop.m K cB cO line σ) : Spec Pr F.cache_Cache_Drop [.pointer (some ⟨cB, cO, none⟩), .int .i64 line] σ K := by
  rw [← cache_Cache_Drop.m_eq] at h
  exact segF_spec Pr_mixed (hsel_sound fun x hx => by
    cases hx) h

/-! ### (*corral/cache.Cache).All -/
def cache_Cache_All.H : Hints := { esc := [], cuts := [] }
noncomputable def cache_Cache_All.T : Nat → List Item := stk Pr F.cache_Cache_All []
def cache_Cache_All.m (K : Value → Store → Prop) (cB cO : Nat) (σ : Store) : Prop :=
  ∃ t7A : Option Addr, ∃ t7N : Nat, ∃ t7C : Nat, cellAt σ cB (cO + 1) = some (.slice t7A t7N t7C) ∧
  Spec Pr F.slices_Concat [.slice t7A t7N t7C] σ fun v σ_ => ∃ t8A : Option Addr, ∃ t8N : Nat, ∃ t8C : Nat, v = .slice t8A t8N t8C ∧
  Spec Pr F.slices_SortFunc [.slice t8A t8N t8C, .func (.func F.cache_Cache_All_1) #[] #[]] σ_ fun v1 σ_1 => v1 = .tuple #[] ∧
  K (.slice t8A t8N t8C) σ_1
noncomputable def cache_Cache_All.h (K : Value → Store → Prop) : Hand := hsel []
theorem cache_Cache_All.m_eq (K : Value → Store → Prop) (cB cO : Nat) (σ : Store) : (segF Pr cache_Cache_All.H F.cache_Cache_All cache_Cache_All.T (cache_Cache_All.h K) K [.pointer (some ⟨cB, cO, none⟩)] σ) = cache_Cache_All.m K cB cO σ := by kernel_rfl
theorem cache_Cache_All.ok {K : Value → Store → Prop} {cB cO : Nat} {σ : Store} (h : cache_Cache_All.m K cB cO σ) : Spec Pr F.cache_Cache_All [.pointer (some ⟨cB, cO, none⟩)] σ K := by
  rw [← cache_Cache_All.m_eq] at h
  exact segF_spec Pr_mixed (hsel_sound fun x hx => by
    cases hx) h

/-! ### (*corral/cache.Cache).at -/
def cache_Cache_at.H : Hints := { esc := [3], cuts := [] }
noncomputable def cache_Cache_at.T : Nat → List Item := stk Pr F.cache_Cache_at []
def cache_Cache_at.m (K : Value → Store → Prop) (cB cO : Nat) (line : Int) (σ : Store) : Prop :=
  New σ ⟨3, [.int .i64 line], (0, 0)⟩ fun lineB σ_ =>
  ∃ t7 : Int, cellAt σ_ lineB 0 = some (.int .i64 t7) ∧
  cond (decide (t7 < 0))
  (∃ t12A : Option Addr, ∃ t12N : Nat, ∃ t12C : Nat, cellAt σ_ cB (cO + 1) = some (.slice t12A t12N t12C) ∧
    Req (decide (0 ≤ 0) && decide (0 < ((t12N : Nat) : Int))) (
      PtrNN t12A fun t13B t13O =>
      K (.tuple #[.pointer (some ⟨t13B, t13O, none⟩), .int .i64 (-1)]) σ_))
  (∃ t17A : Option Addr, ∃ t17N : Nat, ∃ t17C : Nat, cellAt σ_ cB (cO + 1) = some (.slice t17A t17N t17C) ∧
    ∃ t18 : Int, cellAt σ_ lineB 0 = some (.int .i64 t18) ∧
    ∃ t22A : Option Addr, ∃ t22N : Nat, ∃ t22C : Nat, cellAt σ_ cB (cO + 1) = some (.slice t22A t22N t22C) ∧
    Req (!decide (((t22N : Nat) : Int) = 0)) (
      Req (decide (0 ≤ (Int.tmod t18 ((t22N : Nat) : Int))) && decide ((Int.tmod t18 ((t22N : Nat) : Int)) < ((t17N : Nat) : Int))) (
        PtrNN t17A fun t25B t25O =>
        ∃ t29A : Option Addr, ∃ t29N : Nat, ∃ t29C : Nat, cellAt σ_ t25B (t25O + (Int.tmod t18 ((t22N : Nat) : Int)).toNat * 1) = some (.slice t29A t29N t29C) ∧
        Spec Pr F.slices_IndexFunc [.slice t29A t29N t29C, .func (.func F.cache_Cache_at_1) #[] #[.pointer (some ⟨lineB, 0, none⟩)]] σ_ fun v σ_1 => ∃ t31 : Int, v = .int .i64 t31 ∧
        K (.tuple #[.pointer (some ⟨t25B, t25O + (Int.tmod t18 ((t22N : Nat) : Int)).toNat * 1, none⟩), .int .i64 t31]) σ_1)))
noncomputable def cache_Cache_at.h (K : Value → Store → Prop) : Hand := hsel []
theorem cache_Cache_at.m_eq (K : Value → Store → Prop) (cB cO : Nat) (line : Int) (σ : Store) : (segF Pr cache_Cache_at.H F.cache_Cache_at cache_Cache_at.T (cache_Cache_at.h K) K [.pointer (some ⟨cB, cO, none⟩), .int .i64 line] σ) = cache_Cache_at.m K cB cO line σ := by kernel_rfl
theorem cache_Cache_at.ok {K : Value → Store → Prop} {cB cO : Nat} {line : Int} {σ : Store} (h : cache_Cache_at.m K cB cO line σ) : Spec Pr F.cache_Cache_at [.pointer (some ⟨cB, cO, none⟩), .int .i64 line] σ K := by
  rw [← cache_Cache_at.m_eq] at h
  exact segF_spec Pr_mixed (hsel_sound fun x hx => by
    cases hx) h

/-! ### corral/cache.last -/
def cache_last.H : Hints := { esc := [], cuts := [(4, [0, 6], [(5, 59)])] }
noncomputable def cache_last.T : Nat → List Item := stk Pr F.cache_last [(4, [1, 1, 1])]
abbrev cache_last.R4 : Type := Nat → Nat → Option Addr → Nat → Nat → Int → Int → Int → Int → Int → Int → Store → Prop
def cache_last.d4 (g : cache_last.R4) : List AV → List (List Value) → Store → Prop
  | [.v (.pointer (some ⟨setB, setO, none⟩)), .v (.slice lA lN lC)], [[.int .i64 e0, .int .i64 e1, .int .u32 e2, .int .u32 e3, .int .u32 e4, .int .u32 e5]], σ => g setB setO lA lN lC e0 e1 e2 e3 e4 e5 σ
  | _, _, _ => False
def cache_last.S4 (K : Value → Store → Prop) (setB setO : Nat) (lA : Option Addr) (lN lC : Nat) (e0 e1 e2 e3 e4 e5 : Int) (σ : Store) : Prop := SndF Pr F.cache_last cache_last.H cache_last.T K 4 [.v (.pointer (some ⟨setB, setO, none⟩)), .v (.slice lA lN lC)] [[.int .i64 e0, .int .i64 e1, .int .u32 e2, .int .u32 e3, .int .u32 e4, .int .u32 e5]] σ
def cache_last.j4 (K : Value → Store → Prop) (setB setO : Nat) (lA : Option Addr) (lN lC : Nat) (e0 e1 e2 e3 e4 e5 : Int) (σ : Store) : Prop :=
  AppK 59 6 32 [.int .i64 0, .int .i64 0, .int .u32 0, .int .u32 0, .int .u32 0, .int .u32 0] σ lA lN lC [.int .i64 e0, .int .i64 e1, .int .u32 e2, .int .u32 e3, .int .u32 e4, .int .u32 e5] 1 fun t22A t22N t22C σ_ =>
  StoreK σ_ setB setO 1 [.slice t22A t22N t22C] fun σ_1 =>
  K (.tuple #[]) σ_1
def cache_last.m (K : Value → Store → Prop) (setB setO : Nat) (k e0 e1 e2 e3 e4 e5 : Int) (σ : Store) : Prop :=
  ∃ t9A : Option Addr, ∃ t9N : Nat, ∃ t9C : Nat, cellAt σ setB setO = some (.slice t9A t9N t9C) ∧
  Spec Pr F.slices_Clone [.slice t9A t9N t9C] σ fun v σ_ => ∃ t10A : Option Addr, ∃ t10N : Nat, ∃ t10C : Nat, v = .slice t10A t10N t10C ∧
  cond (decide (k ≥ 0))
  (Spec Pr F.slices_Delete [.slice t10A t10N t10C, .int .i64 k, .int .i64 (IntKind.wrap .i64 (k + 1))] σ_ fun v1 σ_1 => ∃ t17A : Option Addr, ∃ t17N : Nat, ∃ t17C : Nat, v1 = .slice t17A t17N t17C ∧
    Hop (cache_last.T 4) (cache_last.T 4) (cache_last.j4 K setB setO t17A t17N t17C e0 e1 e2 e3 e4 e5 σ_1))
  (Hop (cache_last.T 4) (cache_last.T 4) (cache_last.j4 K setB setO t10A t10N t10C e0 e1 e2 e3 e4 e5 σ_))
theorem cache_last.d4_ok {K : Value → Store → Prop} {g : cache_last.R4} (hg : ∀ setB setO lA lN lC e0 e1 e2 e3 e4 e5 σ, g setB setO lA lN lC e0 e1 e2 e3 e4 e5 σ → cache_last.S4 K setB setO lA lN lC e0 e1 e2 e3 e4 e5 σ) (vs : List AV) (bs : List (List Value)) (σ : Store) (h : cache_last.d4 g vs bs σ) : SndF Pr F.cache_last cache_last.H cache_last.T K 4 vs bs σ := by
  unfold cache_last.d4 at h
  split at h
  · exact hg _ _ _ _ _ _ _ _ _ _ _ _ h
  · exact h.elim
noncomputable def cache_last.h4 (K : Value → Store → Prop) : Hand := hsel []
theorem cache_last.j4_eq (K : Value → Store → Prop) (setB setO : Nat) (lA : Option Addr) (lN lC : Nat) (e0 e1 e2 e3 e4 e5 : Int) (σ : Store) : (seg Pr cache_last.H F.cache_last cache_last.T (cache_last.h4 K ) K (cache_last.T 4) (Ev.cutE cache_last.H 4 [.v (.pointer (some ⟨setB, setO, none⟩)), .v (.slice lA lN lC)] [[.int .i64 e0, .int .i64 e1, .int .u32 e2, .int .u32 e3, .int .u32 e4, .int .u32 e5]]) σ) = cache_last.j4 K setB setO lA lN lC e0 e1 e2 e3 e4 e5 σ := by kernel_rfl
theorem cache_last.j4_ok (K : Value → Store → Prop) (setB setO : Nat) (lA : Option Addr) (lN lC : Nat) (e0 e1 e2 e3 e4 e5 : Int) (σ : Store) (h : cache_last.j4 K setB setO lA lN lC e0 e1 e2 e3 e4 e5 σ) : cache_last.S4 K setB setO lA lN lC e0 e1 e2 e3 e4 e5 σ := by
  rw [← cache_last.j4_eq] at h
  exact seg_snd Pr_mixed (hsel_sound fun x hx => by
    cases hx) h
noncomputable def cache_last.h (K : Value → Store → Prop) : Hand := hsel [(4, cache_last.d4 (cache_last.j4 K ))]
theorem cache_last.m_eq (K : Value → Store → Prop) (setB setO : Nat) (k e0 e1 e2 e3 e4 e5 : Int) (σ : Store) : (segF Pr cache_last.H F.cache_last cache_last.T (cache_last.h K) K [.pointer (some ⟨setB, setO, none⟩), .int .i64 k, .agg #[.int .i64 e0, .int .i64 e1, .int .u32 e2, .int .u32 e3, .int .u32 e4, .int .u32 e5]] σ) = cache_last.m K setB setO k e0 e1 e2 e3 e4 e5 σ := by kernel_rfl
theorem cache_last.ok {K : Value → Store → Prop} {setB setO : Nat} {k e0 e1 e2 e3 e4 e5 : Int} {σ : Store} (h : cache_last.m K setB setO k e0 e1 e2 e3 e4 e5 σ) : Spec Pr F.cache_last [.pointer (some ⟨setB, setO, none⟩), .int .i64 k, .agg #[.int .i64 e0, .int .i64 e1, .int .u32 e2, .int .u32 e3, .int .u32 e4, .int .u32 e5]] σ K := by
  rw [← cache_last.m_eq] at h
  exact segF_spec Pr_mixed (hsel_sound fun x hx => by
    simp only [List.mem_cons, List.not_mem_nil, or_false] at hx
    subst hx
    exact cache_last.d4_ok fun _ _ _ _ _ _ _ _ _ _ _ _ h => cache_last.j4_ok K _ _ _ _ _ _ _ _ _ _ _ _ h) h

end Go.Ev
