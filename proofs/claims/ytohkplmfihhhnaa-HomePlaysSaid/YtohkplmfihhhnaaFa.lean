import Derived.Test.YtohkplmfihhhnaaN
set_option linter.unusedVariables false
namespace Go.Ev
open Go
/-! ### (*corral/home.Home).to -/
def home_Home_to.H : Hints := { esc := [], cuts := [] }
noncomputable def home_Home_to.T : Nat → List Item := stk Pr F.home_Home_to []
def home_Home_to.m (K : Value → Store → Prop) (hB hO : Nat) (hart kind : Int) (σ : Store) : Prop :=
  ∃ t11 : Int, cellAt σ hB hO = some (.int .i64 t11) ∧
  K (.agg #[.int .i64 kind, .int .i64 t11, .int .i64 (-1), .int .i64 hart, .int .u32 0, .int .u32 0, .int .u32 0, .int .u32 0, .bool false, .bool false, .bool false]) σ
noncomputable def home_Home_to.h (K : Value → Store → Prop) : Hand := hsel []
theorem home_Home_to.m_eq (K : Value → Store → Prop) (hB hO : Nat) (hart kind : Int) (σ : Store) : (segF Pr home_Home_to.H F.home_Home_to home_Home_to.T (home_Home_to.h K) K [.pointer (some ⟨hB, hO, none⟩), .int .i64 hart, .int .i64 kind] σ) = home_Home_to.m K hB hO hart kind σ := by kernel_rfl
theorem home_Home_to.ok {K : Value → Store → Prop} {hB hO : Nat} {hart kind : Int} {σ : Store} (h : home_Home_to.m K hB hO hart kind σ) : Spec Pr F.home_Home_to [.pointer (some ⟨hB, hO, none⟩), .int .i64 hart, .int .i64 kind] σ K := by
  rw [← home_Home_to.m_eq] at h
  exact segF_spec Pr_mixed (hsel_sound fun x hx => by
    cases hx) h

/-! ### (*corral/home.Home).waits -/
def home_Home_waits.H : Hints := { esc := [], cuts := [] }
noncomputable def home_Home_waits.T : Nat → List Item := stk Pr F.home_Home_waits []
def home_Home_waits.m (K : Value → Store → Prop) (hB hO : Nat) (σ : Store) : Prop :=
  ∃ t6 : Int, cellAt σ hB (hO + 11) = some (.int .i64 t6) ∧
  cond (t6 != (-1))
  (K (.bool true) σ)
  (∃ t12A : Option Addr, ∃ t12N : Nat, ∃ t12C : Nat, cellAt σ hB (hO + 12) = some (.slice t12A t12N t12C) ∧
    Spec Pr F.slices_Contains [.slice t12A t12N t12C, .bool true] σ fun v σ_ => ∃ t13 : Bool, v = .bool t13 ∧
    K (.bool t13) σ_)
noncomputable def home_Home_waits.h (K : Value → Store → Prop) : Hand := hsel []
theorem home_Home_waits.m_eq (K : Value → Store → Prop) (hB hO : Nat) (σ : Store) : (segF Pr home_Home_waits.H F.home_Home_waits home_Home_waits.T (home_Home_waits.h K) K [.pointer (some ⟨hB, hO, none⟩)] σ) = home_Home_waits.m K hB hO σ := by kernel_rfl
theorem home_Home_waits.ok {K : Value → Store → Prop} {hB hO : Nat} {σ : Store} (h : home_Home_waits.m K hB hO σ) : Spec Pr F.home_Home_waits [.pointer (some ⟨hB, hO, none⟩)] σ K := by
  rw [← home_Home_waits.m_eq] at h
  exact segF_spec Pr_mixed (hsel_sound fun x hx => by
    cases hx) h

/-! ### (*corral/home.Home).Takes -/
def home_Home_Takes.H : Hints := { esc := [], cuts := [(3, [0], [(3, 33)]), (7, [0, 32, 33], [(3, 33)])] }
noncomputable def home_Home_Takes.T : Nat → List Item := stk Pr F.home_Home_Takes [(3, [1, 1]), (7, [1, 1, 0, 1, 0, 1])]
abbrev home_Home_Takes.R7 : Type := Nat → Nat → Int → Bool → Int → Int → Int → Int → Int → Int → Int → Int → Bool → Bool → Bool → Store → Prop
abbrev home_Home_Takes.R3 : Type := Nat → Nat → Int → Int → Int → Int → Int → Int → Int → Int → Bool → Bool → Bool → Store → Prop
def home_Home_Takes.d7 (g : home_Home_Takes.R7) : List AV → List (List Value) → Store → Prop
  | [.v (.pointer (some ⟨hB, hO, none⟩)), .v (.int .i64 t32), .v (.bool t33)], [[.int .i64 m0, .int .i64 m1, .int .i64 m2, .int .i64 m3, .int .u32 m4, .int .u32 m5, .int .u32 m6, .int .u32 m7, .bool m8, .bool m9, .bool m10]], σ => g hB hO t32 t33 m0 m1 m2 m3 m4 m5 m6 m7 m8 m9 m10 σ
  | _, _, _ => False
def home_Home_Takes.S7 (K : Value → Store → Prop) (hB hO : Nat) (t32 : Int) (t33 : Bool) (m0 m1 m2 m3 m4 m5 m6 m7 : Int) (m8 m9 m10 : Bool) (σ : Store) : Prop := SndF Pr F.home_Home_Takes home_Home_Takes.H home_Home_Takes.T K 7 [.v (.pointer (some ⟨hB, hO, none⟩)), .v (.int .i64 t32), .v (.bool t33)] [[.int .i64 m0, .int .i64 m1, .int .i64 m2, .int .i64 m3, .int .u32 m4, .int .u32 m5, .int .u32 m6, .int .u32 m7, .bool m8, .bool m9, .bool m10]] σ
def home_Home_Takes.j7 (K : Value → Store → Prop) (hB hO : Nat) (t32 : Int) (t33 : Bool) (m0 m1 m2 m3 m4 m5 m6 m7 : Int) (m8 m9 m10 : Bool) (σ : Store) : Prop :=
  cond t33
  (∃ t40 : Bool, cellAt σ hB (hO + 8) = some (.bool t40) ∧
    K (.bool (!t40)) σ)
  (cond (t32 == 10)
    (∃ t47 : Bool, cellAt σ hB (hO + 8) = some (.bool t47) ∧
      cond t47
      (∃ t52A : Option Addr, ∃ t52N : Nat, ∃ t52C : Nat, cellAt σ hB (hO + 12) = some (.slice t52A t52N t52C) ∧
        Req (decide (0 ≤ m2) && decide (m2 < ((t52N : Nat) : Int))) (
          PtrNN t52A fun t55B t55O =>
          ∃ t56 : Bool, cellAt σ t55B (t55O + m2.toNat * 1) = some (.bool t56) ∧
          K (.bool t56) σ))
      (K (.bool false) σ))
    (cond (t32 == 11)
      (∃ t63 : Bool, cellAt σ hB (hO + 8) = some (.bool t63) ∧
        cond t63
        (∃ t68 : Int, cellAt σ hB (hO + 11) = some (.int .i64 t68) ∧
          K (.bool (t68 == m2)) σ)
        (K (.bool false) σ))
      (cond (t32 == 12)
        (∃ t78 : Bool, cellAt σ hB (hO + 8) = some (.bool t78) ∧
          cond t78
          (Spec Pr F.home_Home_waits [.pointer (some ⟨hB, hO, none⟩)] σ fun v σ_ => ∃ t81 : Bool, v = .bool t81 ∧
            cond (!t81)
            (∃ t88 : Int, cellAt σ_ hB (hO + 9) = some (.int .i64 t88) ∧
              K (.bool (t88 == m2)) σ_)
            (K (.bool false) σ_))
          (K (.bool false) σ))
        (K (.bool false) σ))))
def home_Home_Takes.d3 (g : home_Home_Takes.R3) : List AV → List (List Value) → Store → Prop
  | [.v (.pointer (some ⟨hB, hO, none⟩))], [[.int .i64 m0, .int .i64 m1, .int .i64 m2, .int .i64 m3, .int .u32 m4, .int .u32 m5, .int .u32 m6, .int .u32 m7, .bool m8, .bool m9, .bool m10]], σ => g hB hO m0 m1 m2 m3 m4 m5 m6 m7 m8 m9 m10 σ
  | _, _, _ => False
def home_Home_Takes.S3 (K : Value → Store → Prop) (hB hO : Nat) (m0 m1 m2 m3 m4 m5 m6 m7 : Int) (m8 m9 m10 : Bool) (σ : Store) : Prop := SndF Pr F.home_Home_Takes home_Home_Takes.H home_Home_Takes.T K 3 [.v (.pointer (some ⟨hB, hO, none⟩))] [[.int .i64 m0, .int .i64 m1, .int .i64 m2, .int .i64 m3, .int .u32 m4, .int .u32 m5, .int .u32 m6, .int .u32 m7, .bool m8, .bool m9, .bool m10]] σ
def home_Home_Takes.j3 (K : Value → Store → Prop) (hB hO : Nat) (m0 m1 m2 m3 m4 m5 m6 m7 : Int) (m8 m9 m10 : Bool) (σ : Store) : Prop :=
  cond (m0 == 1)
  (Hop (home_Home_Takes.T 7) (home_Home_Takes.T 7) (home_Home_Takes.j7 K hB hO m0 true m0 m1 m2 m3 m4 m5 m6 m7 m8 m9 m10 σ))
  (cond (m0 == 2)
    (Hop (home_Home_Takes.T 7) (home_Home_Takes.T 7) (home_Home_Takes.j7 K hB hO m0 true m0 m1 m2 m3 m4 m5 m6 m7 m8 m9 m10 σ))
    (Hop (home_Home_Takes.T 7) (home_Home_Takes.T 7) (home_Home_Takes.j7 K hB hO m0 (m0 == 3) m0 m1 m2 m3 m4 m5 m6 m7 m8 m9 m10 σ)))
def home_Home_Takes.m (K : Value → Store → Prop) (hB hO : Nat) (m0 m1 m2 m3 m4 m5 m6 m7 : Int) (m8 m9 m10 : Bool) (σ : Store) : Prop :=
  ∃ t10 : Int, cellAt σ hB hO = some (.int .i64 t10) ∧
  cond (m1 != t10)
  (K (.bool false) σ)
  (cond (m3 != (-1))
    (K (.bool false) σ)
    (cond (decide (m2 < 0))
      (K (.bool false) σ)
      (∃ t28 : Int, cellAt σ hB (hO + 1) = some (.int .i64 t28) ∧
        cond (decide (m2 ≥ t28))
        (K (.bool false) σ)
        (Hop (home_Home_Takes.T 3) (home_Home_Takes.T 3) (home_Home_Takes.j3 K hB hO m0 m1 m2 m3 m4 m5 m6 m7 m8 m9 m10 σ)))))
theorem home_Home_Takes.d7_ok {K : Value → Store → Prop} {g : home_Home_Takes.R7} (hg : ∀ hB hO t32 t33 m0 m1 m2 m3 m4 m5 m6 m7 m8 m9 m10 σ, g hB hO t32 t33 m0 m1 m2 m3 m4 m5 m6 m7 m8 m9 m10 σ → home_Home_Takes.S7 K hB hO t32 t33 m0 m1 m2 m3 m4 m5 m6 m7 m8 m9 m10 σ) (vs : List AV) (bs : List (List Value)) (σ : Store) (h : home_Home_Takes.d7 g vs bs σ) : SndF Pr F.home_Home_Takes home_Home_Takes.H home_Home_Takes.T K 7 vs bs σ := by
  unfold home_Home_Takes.d7 at h
  split at h
  · exact hg _ _ _ _ _ _ _ _ _ _ _ _ _ _ _ _ h
  · exact h.elim
theorem home_Home_Takes.d3_ok {K : Value → Store → Prop} {g : home_Home_Takes.R3} (hg : ∀ hB hO m0 m1 m2 m3 m4 m5 m6 m7 m8 m9 m10 σ, g hB hO m0 m1 m2 m3 m4 m5 m6 m7 m8 m9 m10 σ → home_Home_Takes.S3 K hB hO m0 m1 m2 m3 m4 m5 m6 m7 m8 m9 m10 σ) (vs : List AV) (bs : List (List Value)) (σ : Store) (h : home_Home_Takes.d3 g vs bs σ) : SndF Pr F.home_Home_Takes home_Home_Takes.H home_Home_Takes.T K 3 vs bs σ := by
  unfold home_Home_Takes.d3 at h
  split at h
  · exact hg _ _ _ _ _ _ _ _ _ _ _ _ _ _ h
  · exact h.elim
noncomputable def home_Home_Takes.h7 (K : Value → Store → Prop) : Hand := hsel []
theorem home_Home_Takes.j7_eq (K : Value → Store → Prop) (hB hO : Nat) (t32 : Int) (t33 : Bool) (m0 m1 m2 m3 m4 m5 m6 m7 : Int) (m8 m9 m10 : Bool) (σ : Store) : (seg Pr home_Home_Takes.H F.home_Home_Takes home_Home_Takes.T (home_Home_Takes.h7 K ) K (home_Home_Takes.T 7) (Ev.cutE home_Home_Takes.H 7 [.v (.pointer (some ⟨hB, hO, none⟩)), .v (.int .i64 t32), .v (.bool t33)] [[.int .i64 m0, .int .i64 m1, .int .i64 m2, .int .i64 m3, .int .u32 m4, .int .u32 m5, .int .u32 m6, .int .u32 m7, .bool m8, .bool m9, .bool m10]]) σ) = home_Home_Takes.j7 K hB hO t32 t33 m0 m1 m2 m3 m4 m5 m6 m7 m8 m9 m10 σ := by kernel_rfl
theorem home_Home_Takes.j7_ok (K : Value → Store → Prop) (hB hO : Nat) (t32 : Int) (t33 : Bool) (m0 m1 m2 m3 m4 m5 m6 m7 : Int) (m8 m9 m10 : Bool) (σ : Store) (h : home_Home_Takes.j7 K hB hO t32 t33 m0 m1 m2 m3 m4 m5 m6 m7 m8 m9 m10 σ) : home_Home_Takes.S7 K hB hO t32 t33 m0 m1 m2 m3 m4 m5 m6 m7 m8 m9 m10 σ := by
  rw [← home_Home_Takes.j7_eq] at h
  exact seg_snd Pr_mixed (hsel_sound fun x hx => by
    cases hx) h
noncomputable def home_Home_Takes.h3 (K : Value → Store → Prop) : Hand := hsel [(7, home_Home_Takes.d7 (home_Home_Takes.j7 K ))]
theorem home_Home_Takes.j3_eq (K : Value → Store → Prop) (hB hO : Nat) (m0 m1 m2 m3 m4 m5 m6 m7 : Int) (m8 m9 m10 : Bool) (σ : Store) : (seg Pr home_Home_Takes.H F.home_Home_Takes home_Home_Takes.T (home_Home_Takes.h3 K ) K (home_Home_Takes.T 3) (Ev.cutE home_Home_Takes.H 3 [.v (.pointer (some ⟨hB, hO, none⟩))] [[.int .i64 m0, .int .i64 m1, .int .i64 m2, .int .i64 m3, .int .u32 m4, .int .u32 m5, .int .u32 m6, .int .u32 m7, .bool m8, .bool m9, .bool m10]]) σ) = home_Home_Takes.j3 K hB hO m0 m1 m2 m3 m4 m5 m6 m7 m8 m9 m10 σ := by kernel_rfl
theorem home_Home_Takes.j3_ok (K : Value → Store → Prop) (hB hO : Nat) (m0 m1 m2 m3 m4 m5 m6 m7 : Int) (m8 m9 m10 : Bool) (σ : Store) (h : home_Home_Takes.j3 K hB hO m0 m1 m2 m3 m4 m5 m6 m7 m8 m9 m10 σ) : home_Home_Takes.S3 K hB hO m0 m1 m2 m3 m4 m5 m6 m7 m8 m9 m10 σ := by
  rw [← home_Home_Takes.j3_eq] at h
  exact seg_snd Pr_mixed (hsel_sound fun x hx => by
    simp only [List.mem_cons, List.not_mem_nil, or_false] at hx
    subst hx
    exact home_Home_Takes.d7_ok fun _ _ _ _ _ _ _ _ _ _ _ _ _ _ _ _ h => home_Home_Takes.j7_ok K _ _ _ _ _ _ _ _ _ _ _ _ _ _ _ _ h) h
noncomputable def home_Home_Takes.h (K : Value → Store → Prop) : Hand := hsel [(3, home_Home_Takes.d3 (home_Home_Takes.j3 K ))]
theorem home_Home_Takes.m_eq (K : Value → Store → Prop) (hB hO : Nat) (m0 m1 m2 m3 m4 m5 m6 m7 : Int) (m8 m9 m10 : Bool) (σ : Store) : (segF Pr home_Home_Takes.H F.home_Home_Takes home_Home_Takes.T (home_Home_Takes.h K) K [.pointer (some ⟨hB, hO, none⟩), .agg #[.int .i64 m0, .int .i64 m1, .int .i64 m2, .int .i64 m3, .int .u32 m4, .int .u32 m5, .int .u32 m6, .int .u32 m7, .bool m8, .bool m9, .bool m10]] σ) = home_Home_Takes.m K hB hO m0 m1 m2 m3 m4 m5 m6 m7 m8 m9 m10 σ := by kernel_rfl
theorem home_Home_Takes.ok {K : Value → Store → Prop} {hB hO : Nat} {m0 m1 m2 m3 m4 m5 m6 m7 : Int} {m8 m9 m10 : Bool} {σ : Store} (h : home_Home_Takes.m K hB hO m0 m1 m2 m3 m4 m5 m6 m7 m8 m9 m10 σ) : Spec Pr F.home_Home_Takes [.pointer (some ⟨hB, hO, none⟩), .agg #[.int .i64 m0, .int .i64 m1, .int .i64 m2, .int .i64 m3, .int .u32 m4, .int .u32 m5, .int .u32 m6, .int .u32 m7, .bool m8, .bool m9, .bool m10]] σ K := by
  rw [← home_Home_Takes.m_eq] at h
  exact segF_spec Pr_mixed (hsel_sound fun x hx => by
    simp only [List.mem_cons, List.not_mem_nil, or_false] at hx
    subst hx
    exact home_Home_Takes.d3_ok fun _ _ _ _ _ _ _ _ _ _ _ _ _ _ h => home_Home_Takes.j3_ok K _ _ _ _ _ _ _ _ _ _ _ _ _ _ h) h

/-! ### (*corral/home.Home).Busy -/
def home_Home_Busy.H : Hints := { esc := [], cuts := [] }
noncomputable def home_Home_Busy.T : Nat → List Item := stk Pr F.home_Home_Busy []
def home_Home_Busy.m (K : Value → Store → Prop) (hB hO : Nat) (σ : Store) : Prop :=
  ∃ t6 : Bool, cellAt σ hB (hO + 8) = some (.bool t6) ∧
  K (.bool t6) σ
noncomputable def home_Home_Busy.h (K : Value → Store → Prop) : Hand := hsel []
theorem home_Home_Busy.m_eq (K : Value → Store → Prop) (hB hO : Nat) (σ : Store) : (segF Pr home_Home_Busy.H F.home_Home_Busy home_Home_Busy.T (home_Home_Busy.h K) K [.pointer (some ⟨hB, hO, none⟩)] σ) = home_Home_Busy.m K hB hO σ := by kernel_rfl
theorem home_Home_Busy.ok {K : Value → Store → Prop} {hB hO : Nat} {σ : Store} (h : home_Home_Busy.m K hB hO σ) : Spec Pr F.home_Home_Busy [.pointer (some ⟨hB, hO, none⟩)] σ K := by
  rw [← home_Home_Busy.m_eq] at h
  exact segF_spec Pr_mixed (hsel_sound fun x hx => by
    cases hx) h

/-! ### (*corral/home.Home).Owner -/
def home_Home_Owner.H : Hints := { esc := [], cuts := [] }
noncomputable def home_Home_Owner.T : Nat → List Item := stk Pr F.home_Home_Owner []
def home_Home_Owner.m (K : Value → Store → Prop) (hB hO : Nat) (σ : Store) : Prop :=
  ∃ t6 : Int, cellAt σ hB (hO + 6) = some (.int .i64 t6) ∧
  K (.int .i64 t6) σ
noncomputable def home_Home_Owner.h (K : Value → Store → Prop) : Hand := hsel []
theorem home_Home_Owner.m_eq (K : Value → Store → Prop) (hB hO : Nat) (σ : Store) : (segF Pr home_Home_Owner.H F.home_Home_Owner home_Home_Owner.T (home_Home_Owner.h K) K [.pointer (some ⟨hB, hO, none⟩)] σ) = home_Home_Owner.m K hB hO σ := by kernel_rfl
theorem home_Home_Owner.ok {K : Value → Store → Prop} {hB hO : Nat} {σ : Store} (h : home_Home_Owner.m K hB hO σ) : Spec Pr F.home_Home_Owner [.pointer (some ⟨hB, hO, none⟩)] σ K := by
  rw [← home_Home_Owner.m_eq] at h
  exact segF_spec Pr_mixed (hsel_sound fun x hx => by
    cases hx) h

/-! ### (*corral/home.Home).Data -/
def home_Home_Data.H : Hints := { esc := [], cuts := [] }
noncomputable def home_Home_Data.T : Nat → List Item := stk Pr F.home_Home_Data []
def home_Home_Data.m (K : Value → Store → Prop) (hB hO : Nat) (σ : Store) : Prop :=
  ∃ t60 : Int, ∃ t61 : Int, ∃ t62 : Int, ∃ t63 : Int, cellsAt σ hB (hO + 2) 4 = some [.int .u32 t60, .int .u32 t61, .int .u32 t62, .int .u32 t63] ∧
  K (.agg #[.int .u32 t60, .int .u32 t61, .int .u32 t62, .int .u32 t63]) σ
noncomputable def home_Home_Data.h (K : Value → Store → Prop) : Hand := hsel []
theorem home_Home_Data.m_eq (K : Value → Store → Prop) (hB hO : Nat) (σ : Store) : (segF Pr home_Home_Data.H F.home_Home_Data home_Home_Data.T (home_Home_Data.h K) K [.pointer (some ⟨hB, hO, none⟩)] σ) = home_Home_Data.m K hB hO σ := by kernel_rfl
theorem home_Home_Data.ok {K : Value → Store → Prop} {hB hO : Nat} {σ : Store} (h : home_Home_Data.m K hB hO σ) : Spec Pr F.home_Home_Data [.pointer (some ⟨hB, hO, none⟩)] σ K := by
  rw [← home_Home_Data.m_eq] at h
  exact segF_spec Pr_mixed (hsel_sound fun x hx => by
    cases hx) h

/-! ### (*corral/home.Home).Sharers -/
def home_Home_Sharers.H : Hints := { esc := [], cuts := [(3, [3, 9, 10, 11], []), (8, [3], [])] }
noncomputable def home_Home_Sharers.T : Nat → List Item := stk Pr F.home_Home_Sharers [(3, [1, 1, 0, 1, 0, 0]), (8, [1, 1, 1])]
abbrev home_Home_Sharers.R8 : Type := Option Addr → Nat → Nat → Store → Prop
abbrev home_Home_Sharers.R3 : Type := Option Addr → Nat → Nat → Option Addr → Nat → Nat → Int → Int → Store → Prop
def home_Home_Sharers.d8 (g : home_Home_Sharers.R8) : List AV → List (List Value) → Store → Prop
  | [.v (.slice lA lN lC)], [], σ => g lA lN lC σ
  | _, _, _ => False
def home_Home_Sharers.S8 (K : Value → Store → Prop) (lA : Option Addr) (lN lC : Nat) (σ : Store) : Prop := SndF Pr F.home_Home_Sharers home_Home_Sharers.H home_Home_Sharers.T K 8 [.v (.slice lA lN lC)] [] σ
def home_Home_Sharers.j8 (K : Value → Store → Prop) (lA : Option Addr) (lN lC : Nat) (σ : Store) : Prop :=
  K (.slice lA lN lC) σ
def home_Home_Sharers.d3 (g : home_Home_Sharers.R3) : List AV → List (List Value) → Store → Prop
  | [.v (.slice lA lN lC), .v (.slice t9A t9N t9C), .v (.int .i64 t10), .v (.int .i64 t11)], [], σ => g lA lN lC t9A t9N t9C t10 t11 σ
  | _, _, _ => False
def home_Home_Sharers.S3 (K : Value → Store → Prop) (lA : Option Addr) (lN lC : Nat) (t9A : Option Addr) (t9N t9C : Nat) (t10 t11 : Int) (σ : Store) : Prop := SndF Pr F.home_Home_Sharers home_Home_Sharers.H home_Home_Sharers.T K 3 [.v (.slice lA lN lC), .v (.slice t9A t9N t9C), .v (.int .i64 t10), .v (.int .i64 t11)] [] σ
def home_Home_Sharers.b3 (K : Value → Store → Prop) (r3 : home_Home_Sharers.R3) (lA : Option Addr) (lN lC : Nat) (t9A : Option Addr) (t9N t9C : Nat) (t10 t11 : Int) (σ : Store) : Prop :=
  cond (decide (t11 < t10))
  (Req (decide (0 ≤ t11) && decide (t11 < ((t9N : Nat) : Int))) (
      PtrNN t9A fun t14B t14O =>
      ∃ t15 : Bool, cellAt σ t14B (t14O + t11.toNat * 1) = some (.bool t15) ∧
      cond t15
      (AppK 3 1 8 [.int .i64 0] σ lA lN lC [.int .i64 t11] 1 fun t20A t20N t20C σ_ =>
        Hop (home_Home_Sharers.T 3) (home_Home_Sharers.T 3) (r3 t20A t20N t20C t9A t9N t9C t10 (IntKind.wrap .i64 (t11 + 1)) σ_))
      (Hop (home_Home_Sharers.T 3) (home_Home_Sharers.T 3) (r3 lA lN lC t9A t9N t9C t10 (IntKind.wrap .i64 (t11 + 1)) σ))))
  (Hop (home_Home_Sharers.T 8) (home_Home_Sharers.T 8) (home_Home_Sharers.j8 K lA lN lC σ))
def home_Home_Sharers.l3 (K : Value → Store → Prop) : Nat → home_Home_Sharers.R3
  | 0, _, _, _, _, _, _, _, _, _ => False
  | n + 1, lA, lN, lC, t9A, t9N, t9C, t10, t11, σ => home_Home_Sharers.b3 K (home_Home_Sharers.l3 K n) lA lN lC t9A t9N t9C t10 t11 σ
def home_Home_Sharers.m (K : Value → Store → Prop) (hB hO : Nat) (σ : Store) : Prop :=
  ∃ t9A : Option Addr, ∃ t9N : Nat, ∃ t9C : Nat, cellAt σ hB (hO + 7) = some (.slice t9A t9N t9C) ∧
  Hop (home_Home_Sharers.T 3) (home_Home_Sharers.T 3) (∃ n : Nat, home_Home_Sharers.l3 K n none 0 0 t9A t9N t9C ((t9N : Nat) : Int) 0 σ)
theorem home_Home_Sharers.d8_ok {K : Value → Store → Prop} {g : home_Home_Sharers.R8} (hg : ∀ lA lN lC σ, g lA lN lC σ → home_Home_Sharers.S8 K lA lN lC σ) (vs : List AV) (bs : List (List Value)) (σ : Store) (h : home_Home_Sharers.d8 g vs bs σ) : SndF Pr F.home_Home_Sharers home_Home_Sharers.H home_Home_Sharers.T K 8 vs bs σ := by
  unfold home_Home_Sharers.d8 at h
  split at h
  · exact hg _ _ _ _ h
  · exact h.elim
theorem home_Home_Sharers.d3_ok {K : Value → Store → Prop} {g : home_Home_Sharers.R3} (hg : ∀ lA lN lC t9A t9N t9C t10 t11 σ, g lA lN lC t9A t9N t9C t10 t11 σ → home_Home_Sharers.S3 K lA lN lC t9A t9N t9C t10 t11 σ) (vs : List AV) (bs : List (List Value)) (σ : Store) (h : home_Home_Sharers.d3 g vs bs σ) : SndF Pr F.home_Home_Sharers home_Home_Sharers.H home_Home_Sharers.T K 3 vs bs σ := by
  unfold home_Home_Sharers.d3 at h
  split at h
  · exact hg _ _ _ _ _ _ _ _ _ h
  · exact h.elim
noncomputable def home_Home_Sharers.h8 (K : Value → Store → Prop) : Hand := hsel []
theorem home_Home_Sharers.j8_eq (K : Value → Store → Prop) (lA : Option Addr) (lN lC : Nat) (σ : Store) : (seg Pr home_Home_Sharers.H F.home_Home_Sharers home_Home_Sharers.T (home_Home_Sharers.h8 K ) K (home_Home_Sharers.T 8) (Ev.cutE home_Home_Sharers.H 8 [.v (.slice lA lN lC)] []) σ) = home_Home_Sharers.j8 K lA lN lC σ := by kernel_rfl
theorem home_Home_Sharers.j8_ok (K : Value → Store → Prop) (lA : Option Addr) (lN lC : Nat) (σ : Store) (h : home_Home_Sharers.j8 K lA lN lC σ) : home_Home_Sharers.S8 K lA lN lC σ := by
  rw [← home_Home_Sharers.j8_eq] at h
  exact seg_snd Pr_mixed (hsel_sound fun x hx => by
    cases hx) h
noncomputable def home_Home_Sharers.h3 (K : Value → Store → Prop) (r3 : home_Home_Sharers.R3) : Hand := hsel [(8, home_Home_Sharers.d8 (home_Home_Sharers.j8 K )), (3, home_Home_Sharers.d3 r3)]
theorem home_Home_Sharers.b3_eq (K : Value → Store → Prop) (r3 : home_Home_Sharers.R3) (lA : Option Addr) (lN lC : Nat) (t9A : Option Addr) (t9N t9C : Nat) (t10 t11 : Int) (σ : Store) : (seg Pr home_Home_Sharers.H F.home_Home_Sharers home_Home_Sharers.T (home_Home_Sharers.h3 K r3) K (home_Home_Sharers.T 3) (Ev.cutE home_Home_Sharers.H 3 [.v (.slice lA lN lC), .v (.slice t9A t9N t9C), .v (.int .i64 t10), .v (.int .i64 t11)] []) σ) = home_Home_Sharers.b3 K r3 lA lN lC t9A t9N t9C t10 t11 σ := by kernel_rfl
theorem home_Home_Sharers.b3_ok (K : Value → Store → Prop) (r3 : home_Home_Sharers.R3) (h3 : ∀ lA lN lC t9A t9N t9C t10 t11 σ, r3 lA lN lC t9A t9N t9C t10 t11 σ → home_Home_Sharers.S3 K lA lN lC t9A t9N t9C t10 t11 σ) (lA : Option Addr) (lN lC : Nat) (t9A : Option Addr) (t9N t9C : Nat) (t10 t11 : Int) (σ : Store) (h : home_Home_Sharers.b3 K r3 lA lN lC t9A t9N t9C t10 t11 σ) : home_Home_Sharers.S3 K lA lN lC t9A t9N t9C t10 t11 σ := by
  rw [← home_Home_Sharers.b3_eq] at h
  exact seg_snd Pr_mixed (hsel_sound fun x hx => by
    simp only [List.mem_cons, List.not_mem_nil, or_false] at hx
    rcases hx with rfl | rfl
    · exact home_Home_Sharers.d8_ok fun _ _ _ _ h => home_Home_Sharers.j8_ok K _ _ _ _ h
    · exact home_Home_Sharers.d3_ok h3) h
theorem home_Home_Sharers.l3_ok (K : Value → Store → Prop) : ∀ (n : Nat) (lA : Option Addr) (lN lC : Nat) (t9A : Option Addr) (t9N t9C : Nat) (t10 t11 : Int) (σ : Store), home_Home_Sharers.l3 K n lA lN lC t9A t9N t9C t10 t11 σ → home_Home_Sharers.S3 K lA lN lC t9A t9N t9C t10 t11 σ
  | 0, _, _, _, _, _, _, _, _, _, h => h.elim
  | n + 1, _, _, _, _, _, _, _, _, _, h => home_Home_Sharers.b3_ok K (home_Home_Sharers.l3 K n) (home_Home_Sharers.l3_ok K n) _ _ _ _ _ _ _ _ _ h
noncomputable def home_Home_Sharers.h (K : Value → Store → Prop) : Hand := hsel [(3, home_Home_Sharers.d3 fun lA lN lC t9A t9N t9C t10 t11 σ => ∃ n : Nat, home_Home_Sharers.l3 K n lA lN lC t9A t9N t9C t10 t11 σ)]
theorem home_Home_Sharers.m_eq (K : Value → Store → Prop) (hB hO : Nat) (σ : Store) : (segF Pr home_Home_Sharers.H F.home_Home_Sharers home_Home_Sharers.T (home_Home_Sharers.h K) K [.pointer (some ⟨hB, hO, none⟩)] σ) = home_Home_Sharers.m K hB hO σ := by kernel_rfl
theorem home_Home_Sharers.ok {K : Value → Store → Prop} {hB hO : Nat} {σ : Store} (h : home_Home_Sharers.m K hB hO σ) : Spec Pr F.home_Home_Sharers [.pointer (some ⟨hB, hO, none⟩)] σ K := by
  rw [← home_Home_Sharers.m_eq] at h
  exact segF_spec Pr_mixed (hsel_sound fun x hx => by
    simp only [List.mem_cons, List.not_mem_nil, or_false] at hx
    subst hx
    exact home_Home_Sharers.d3_ok fun _ _ _ _ _ _ _ _ _ ⟨n, h⟩ => home_Home_Sharers.l3_ok K n _ _ _ _ _ _ _ _ _ h) h

/-! ### (*corral/home.Home).Clone -/
def home_Home_Clone.H : Hints := { esc := [3], cuts := [] }
noncomputable def home_Home_Clone.T : Nat → List Item := stk Pr F.home_Home_Clone []
def home_Home_Clone.m (K : Value → Store → Prop) (hB hO : Nat) (σ : Store) : Prop :=
  ∃ t6 : List Value, cellsAt σ hB hO 24 = some t6 ∧
  New σ ⟨51, [.int .i64 0, .int .i64 0, .int .u32 0, .int .u32 0, .int .u32 0, .int .u32 0, .int .i64 0, .slice none 0 0, .bool false, .int .i64 0, .int .i64 0, .int .i64 0, .slice none 0 0, .int .i64 0, .int .i64 0, .int .i64 0, .int .i64 0, .int .u32 0, .int .u32 0, .int .u32 0, .int .u32 0, .bool false, .bool false, .bool false], (0, 0)⟩ fun cB σ_ =>
  StoreK σ_ cB 0 24 t6 fun σ_1 =>
  ∃ t10A : Option Addr, ∃ t10N : Nat, ∃ t10C : Nat, cellAt σ_1 hB (hO + 7) = some (.slice t10A t10N t10C) ∧
  ∃ t15A : Option Addr, ∃ t15N : Nat, ∃ t15C : Nat, cellAt σ_1 hB (hO + 12) = some (.slice t15A t15N t15C) ∧
  Spec Pr F.slices_Clone [.slice t10A t10N t10C] σ_1 fun v σ_2 => ∃ t11A : Option Addr, ∃ t11N : Nat, ∃ t11C : Nat, v = .slice t11A t11N t11C ∧
  cellsAt σ_2 hB (hO + 12) 1 = some [.slice t15A t15N t15C] ∧
  Spec Pr F.slices_Clone [.slice t15A t15N t15C] σ_2 fun v1 σ_3 => ∃ t16A : Option Addr, ∃ t16N : Nat, ∃ t16C : Nat, v1 = .slice t16A t16N t16C ∧
  StoreK σ_3 cB 7 1 [.slice t11A t11N t11C] fun σ_4 =>
  StoreK σ_4 cB 12 1 [.slice t16A t16N t16C] fun σ_5 =>
  K (.pointer (some ⟨cB, 0, none⟩)) σ_5
noncomputable def home_Home_Clone.h (K : Value → Store → Prop) : Hand := hsel []
theorem home_Home_Clone.m_eq (K : Value → Store → Prop) (hB hO : Nat) (σ : Store) : (segF Pr home_Home_Clone.H F.home_Home_Clone home_Home_Clone.T (home_Home_Clone.h K) K [.pointer (some ⟨hB, hO, none⟩)] σ) = home_Home_Clone.m K hB hO σ := by kernel_rfl
theorem home_Home_Clone.ok {K : Value → Store → Prop} {hB hO : Nat} {σ : Store} (h : home_Home_Clone.m K hB hO σ) : Spec Pr F.home_Home_Clone [.pointer (some ⟨hB, hO, none⟩)] σ K := by
  rw [← home_Home_Clone.m_eq] at h
  exact segF_spec Pr_mixed (hsel_sound fun x hx => by
    cases hx) h

/-! ### corral/home.New -/
def home_New.H : Hints := { esc := [17], cuts := [] }
noncomputable def home_New.T : Nat → List Item := stk Pr F.home_New []
def home_New.m (K : Value → Store → Prop) (line harts data0 data1 data2 data3 : Int) (σ : Store) : Prop :=
  (MakeK 4 1 [.bool false] σ (if 0 > harts then 0 else harts) (if 0 > harts then 0 else harts) fun t13B t13N t13C σ_ =>
    MakeK 4 1 [.bool false] σ_ (if 0 > harts then 0 else harts) (if 0 > harts then 0 else harts) fun t15B t15N t15C σ_1 =>
    New σ_1 ⟨51, [.int .i64 line, .int .i64 (if 0 > harts then 0 else harts), .int .u32 data0, .int .u32 data1, .int .u32 data2, .int .u32 data3, .int .i64 (-1), .slice (some ⟨t13B, 0, none⟩) t13N t13C, .bool false, .int .i64 0, .int .i64 0, .int .i64 (-1), .slice (some ⟨t15B, 0, none⟩) t15N t15C, .int .i64 0, .int .i64 0, .int .i64 0, .int .i64 0, .int .u32 0, .int .u32 0, .int .u32 0, .int .u32 0, .bool false, .bool false, .bool false], (0, 0)⟩ fun t17B σ_2 =>
    K (.pointer (some ⟨t17B, 0, none⟩)) σ_2) ∧
  (MakeK 4 1 [.bool false] σ (if 0 > harts then 0 else harts) (if 0 > harts then 0 else harts) fun t15B1 t15N1 t15C1 σ_3 =>
    MakeK 4 1 [.bool false] σ_3 (if 0 > harts then 0 else harts) (if 0 > harts then 0 else harts) fun t13B1 t13N1 t13C1 σ_4 =>
    New σ_4 ⟨51, [.int .i64 line, .int .i64 (if 0 > harts then 0 else harts), .int .u32 data0, .int .u32 data1, .int .u32 data2, .int .u32 data3, .int .i64 (-1), .slice (some ⟨t13B1, 0, none⟩) t13N1 t13C1, .bool false, .int .i64 0, .int .i64 0, .int .i64 (-1), .slice (some ⟨t15B1, 0, none⟩) t15N1 t15C1, .int .i64 0, .int .i64 0, .int .i64 0, .int .i64 0, .int .u32 0, .int .u32 0, .int .u32 0, .int .u32 0, .bool false, .bool false, .bool false], (0, 0)⟩ fun t17B1 σ_5 =>
    K (.pointer (some ⟨t17B1, 0, none⟩)) σ_5)
noncomputable def home_New.h (K : Value → Store → Prop) : Hand := hsel []
theorem home_New.m_eq (K : Value → Store → Prop) (line harts data0 data1 data2 data3 : Int) (σ : Store) : (segF Pr home_New.H F.home_New home_New.T (home_New.h K) K [.int .i64 line, .int .i64 harts, .agg #[.int .u32 data0, .int .u32 data1, .int .u32 data2, .int .u32 data3]] σ) = home_New.m K line harts data0 data1 data2 data3 σ := by kernel_rfl
theorem home_New.ok {K : Value → Store → Prop} {line harts data0 data1 data2 data3 : Int} {σ : Store} (h : home_New.m K line harts data0 data1 data2 data3 σ) : Spec Pr F.home_New [.int .i64 line, .int .i64 harts, .agg #[.int .u32 data0, .int .u32 data1, .int .u32 data2, .int .u32 data3]] σ K := by
  rw [← home_New.m_eq] at h
  exact segF_spec Pr_mixed (hsel_sound fun x hx => by
    cases hx) h

/-! ### (*corral/home.Home).hand -/
def home_Home_hand.H : Hints := { esc := [24], cuts := [] }
noncomputable def home_Home_hand.T : Nat → List Item := stk Pr F.home_Home_hand []
def home_Home_hand.m (K : Value → Store → Prop) (hB hO : Nat) (data0 data1 data2 data3 : Int) (dirty alone : Bool) (σ : Store) : Prop :=
  ∃ t14 : Int, cellAt σ hB (hO + 9) = some (.int .i64 t14) ∧
  Spec Pr F.home_Home_to [.pointer (some ⟨hB, hO, none⟩), .int .i64 t14, .int .i64 7] σ fun v σ_ => ∃ t150 : Int, ∃ t151 : Int, ∃ t152 : Int, ∃ t153 : Int, ∃ t154 : Int, ∃ t155 : Int, ∃ t156 : Int, ∃ t157 : Int, ∃ t158 : Bool, ∃ t159 : Bool, ∃ t1510 : Bool, v = .agg #[.int .i64 t150, .int .i64 t151, .int .i64 t152, .int .i64 t153, .int .u32 t154, .int .u32 t155, .int .u32 t156, .int .u32 t157, .bool t158, .bool t159, .bool t1510] ∧
  New σ_ ⟨33, [.int .i64 t150, .int .i64 t151, .int .i64 t152, .int .i64 t153, .int .u32 data0, .int .u32 data1, .int .u32 data2, .int .u32 data3, .bool true, .bool dirty, .bool alone], (0, 0)⟩ fun t24B σ_1 =>
  K (.slice (some ⟨t24B, 0, none⟩) 1 1) σ_1
noncomputable def home_Home_hand.h (K : Value → Store → Prop) : Hand := hsel []
theorem home_Home_hand.m_eq (K : Value → Store → Prop) (hB hO : Nat) (data0 data1 data2 data3 : Int) (dirty alone : Bool) (σ : Store) : (segF Pr home_Home_hand.H F.home_Home_hand home_Home_hand.T (home_Home_hand.h K) K [.pointer (some ⟨hB, hO, none⟩), .agg #[.int .u32 data0, .int .u32 data1, .int .u32 data2, .int .u32 data3], .bool dirty, .bool alone] σ) = home_Home_hand.m K hB hO data0 data1 data2 data3 dirty alone σ := by kernel_rfl
theorem home_Home_hand.ok {K : Value → Store → Prop} {hB hO : Nat} {data0 data1 data2 data3 : Int} {dirty alone : Bool} {σ : Store} (h : home_Home_hand.m K hB hO data0 data1 data2 data3 dirty alone σ) : Spec Pr F.home_Home_hand [.pointer (some ⟨hB, hO, none⟩), .agg #[.int .u32 data0, .int .u32 data1, .int .u32 data2, .int .u32 data3], .bool dirty, .bool alone] σ K := by
  rw [← home_Home_hand.m_eq] at h
  exact segF_spec Pr_mixed (hsel_sound fun x hx => by
    cases hx) h

/-! ### (*corral/home.Home).owned -/
def home_Home_owned.H : Hints := { esc := [34], cuts := [] }
noncomputable def home_Home_owned.T : Nat → List Item := stk Pr F.home_Home_owned []
def home_Home_owned.m (K : Value → Store → Prop) (hB hO : Nat) (σ : Store) : Prop :=
  Spec Pr F.home_Home_waits [.pointer (some ⟨hB, hO, none⟩)] σ fun v σ_ => ∃ t5 : Bool, v = .bool t5 ∧
  cond t5
  (K (.slice none 0 0) σ_)
  (∃ t9 : Int, cellAt σ_ hB (hO + 6) = some (.int .i64 t9) ∧
    ∃ t14 : Int, cellAt σ_ hB (hO + 9) = some (.int .i64 t14) ∧
    StoreK σ_ hB (hO + 6) 1 [.int .i64 t14] fun σ_1 =>
    ∃ t20A : Option Addr, ∃ t20N : Nat, ∃ t20C : Nat, cellAt σ_1 hB (hO + 7) = some (.slice t20A t20N t20C) ∧
    PutK σ_1 t20A (t20N * 1) (zeroN [.bool false] t20N) fun σ_2 =>
    ∃ t26 : Int, cellAt σ_2 hB (hO + 9) = some (.int .i64 t26) ∧
    cond (t9 == t26)
    (∃ t32 : Int, cellAt σ_2 hB (hO + 9) = some (.int .i64 t32) ∧
      Spec Pr F.home_Home_to [.pointer (some ⟨hB, hO, none⟩), .int .i64 t32, .int .i64 8] σ_2 fun v1 σ_3 => ∃ t330 : Int, ∃ t331 : Int, ∃ t332 : Int, ∃ t333 : Int, ∃ t334 : Int, ∃ t335 : Int, ∃ t336 : Int, ∃ t337 : Int, ∃ t338 : Bool, ∃ t339 : Bool, ∃ t3310 : Bool, v1 = .agg #[.int .i64 t330, .int .i64 t331, .int .i64 t332, .int .i64 t333, .int .u32 t334, .int .u32 t335, .int .u32 t336, .int .u32 t337, .bool t338, .bool t339, .bool t3310] ∧
      New σ_3 ⟨33, [.int .i64 t330, .int .i64 t331, .int .i64 t332, .int .i64 t333, .int .u32 t334, .int .u32 t335, .int .u32 t336, .int .u32 t337, .bool t338, .bool t339, .bool t3310], (0, 0)⟩ fun t34B σ_4 =>
      K (.slice (some ⟨t34B, 0, none⟩) 1 1) σ_4)
    (∃ t40 : Bool, cellAt σ_2 hB (hO + 21) = some (.bool t40) ∧
      cond t40
      (∃ t460 : Int, ∃ t461 : Int, ∃ t462 : Int, ∃ t463 : Int, cellsAt σ_2 hB (hO + 17) 4 = some [.int .u32 t460, .int .u32 t461, .int .u32 t462, .int .u32 t463] ∧
        ∃ t51 : Bool, cellAt σ_2 hB (hO + 22) = some (.bool t51) ∧
        Spec Pr F.home_Home_hand [.pointer (some ⟨hB, hO, none⟩), .agg #[.int .u32 t460, .int .u32 t461, .int .u32 t462, .int .u32 t463], .bool t51, .bool true] σ_2 fun v2 σ_5 => ∃ t52A : Option Addr, ∃ t52N : Nat, ∃ t52C : Nat, v2 = .slice t52A t52N t52C ∧
        K (.slice t52A t52N t52C) σ_5)
      (∃ t570 : Int, ∃ t571 : Int, ∃ t572 : Int, ∃ t573 : Int, cellsAt σ_2 hB (hO + 2) 4 = some [.int .u32 t570, .int .u32 t571, .int .u32 t572, .int .u32 t573] ∧
        Spec Pr F.home_Home_hand [.pointer (some ⟨hB, hO, none⟩), .agg #[.int .u32 t570, .int .u32 t571, .int .u32 t572, .int .u32 t573], .bool false, .bool true] σ_2 fun v3 σ_6 => ∃ t58A : Option Addr, ∃ t58N : Nat, ∃ t58C : Nat, v3 = .slice t58A t58N t58C ∧
        K (.slice t58A t58N t58C) σ_6)))
noncomputable def home_Home_owned.h (K : Value → Store → Prop) : Hand := hsel []
theorem home_Home_owned.m_eq (K : Value → Store → Prop) (hB hO : Nat) (σ : Store) : (segF Pr home_Home_owned.H F.home_Home_owned home_Home_owned.T (home_Home_owned.h K) K [.pointer (some ⟨hB, hO, none⟩)] σ) = home_Home_owned.m K hB hO σ := by kernel_rfl
theorem home_Home_owned.ok {K : Value → Store → Prop} {hB hO : Nat} {σ : Store} (h : home_Home_owned.m K hB hO σ) : Spec Pr F.home_Home_owned [.pointer (some ⟨hB, hO, none⟩)] σ K := by
  rw [← home_Home_owned.m_eq] at h
  exact segF_spec Pr_mixed (hsel_sound fun x hx => by
    cases hx) h

/-! ### (*corral/home.Home).share -/
def home_Home_share.H : Hints := { esc := [37], cuts := [(3, [0, 3, 23], []), (5, [0, 3], []), (8, [0, 3, 4, 44, 45, 46], []), (12, [0, 3, 4], []), (15, [0, 4], [])] }
noncomputable def home_Home_share.T : Nat → List Item := stk Pr F.home_Home_share [(3, [1, 1, 0, 1]), (5, [1, 1, 1]), (8, [1, 1, 1, 1, 1, 0, 1, 0, 0]), (12, [1, 1, 1, 1, 1, 1]), (15, [1, 1, 1, 1, 1, 1, 1])]
abbrev home_Home_share.R15 : Type := Nat → Nat → Bool → Store → Prop
abbrev home_Home_share.R12 : Type := Nat → Nat → Int → Bool → Store → Prop
abbrev home_Home_share.R8 : Type := Nat → Nat → Int → Bool → Option Addr → Nat → Nat → Int → Int → Store → Prop
abbrev home_Home_share.R5 : Type := Nat → Nat → Int → Store → Prop
abbrev home_Home_share.R3 : Type := Nat → Nat → Int → Bool → Store → Prop
def home_Home_share.d15 (g : home_Home_share.R15) : List AV → List (List Value) → Store → Prop
  | [.v (.pointer (some ⟨hB, hO, none⟩)), .v (.bool alone)], [], σ => g hB hO alone σ
  | _, _, _ => False
def home_Home_share.S15 (K : Value → Store → Prop) (hB hO : Nat) (alone : Bool) (σ : Store) : Prop := SndF Pr F.home_Home_share home_Home_share.H home_Home_share.T K 15 [.v (.pointer (some ⟨hB, hO, none⟩)), .v (.bool alone)] [] σ
def home_Home_share.j15 (K : Value → Store → Prop) (hB hO : Nat) (alone : Bool) (σ : Store) : Prop :=
  ∃ t830 : Int, ∃ t831 : Int, ∃ t832 : Int, ∃ t833 : Int, cellsAt σ hB (hO + 2) 4 = some [.int .u32 t830, .int .u32 t831, .int .u32 t832, .int .u32 t833] ∧
  Spec Pr F.home_Home_hand [.pointer (some ⟨hB, hO, none⟩), .agg #[.int .u32 t830, .int .u32 t831, .int .u32 t832, .int .u32 t833], .bool false, .bool alone] σ fun v σ_ => ∃ t85A : Option Addr, ∃ t85N : Nat, ∃ t85C : Nat, v = .slice t85A t85N t85C ∧
  K (.slice t85A t85N t85C) σ_
def home_Home_share.d12 (g : home_Home_share.R12) : List AV → List (List Value) → Store → Prop
  | [.v (.pointer (some ⟨hB, hO, none⟩)), .v (.int .i64 r_), .v (.bool alone)], [], σ => g hB hO r_ alone σ
  | _, _, _ => False
def home_Home_share.S12 (K : Value → Store → Prop) (hB hO : Nat) (r_ : Int) (alone : Bool) (σ : Store) : Prop := SndF Pr F.home_Home_share home_Home_share.H home_Home_share.T K 12 [.v (.pointer (some ⟨hB, hO, none⟩)), .v (.int .i64 r_), .v (.bool alone)] [] σ
def home_Home_share.j12 (K : Value → Store → Prop) (hB hO : Nat) (r_ : Int) (alone : Bool) (σ : Store) : Prop :=
  cond alone
  (∃ t67A : Option Addr, ∃ t67N : Nat, ∃ t67C : Nat, cellAt σ hB (hO + 7) = some (.slice t67A t67N t67C) ∧
    StoreK σ hB (hO + 6) 1 [.int .i64 r_] fun σ_ =>
    Req (decide (0 ≤ r_) && decide (r_ < ((t67N : Nat) : Int))) (
      PtrNN t67A fun t72B t72O =>
      StoreK σ_ t72B (t72O + r_.toNat * 1) 1 [.bool false] fun σ_1 =>
      Hop (home_Home_share.T 15) (home_Home_share.T 15) (home_Home_share.j15 K hB hO alone σ_1)))
  (∃ t76A : Option Addr, ∃ t76N : Nat, ∃ t76C : Nat, cellAt σ hB (hO + 7) = some (.slice t76A t76N t76C) ∧
    Req (decide (0 ≤ r_) && decide (r_ < ((t76N : Nat) : Int))) (
      PtrNN t76A fun t78B t78O =>
      StoreK σ t78B (t78O + r_.toNat * 1) 1 [.bool true] fun σ_2 =>
      Hop (home_Home_share.T 15) (home_Home_share.T 15) (home_Home_share.j15 K hB hO alone σ_2)))
def home_Home_share.d8 (g : home_Home_share.R8) : List AV → List (List Value) → Store → Prop
  | [.v (.pointer (some ⟨hB, hO, none⟩)), .v (.int .i64 r_), .v (.bool alone), .v (.slice t44A t44N t44C), .v (.int .i64 t45), .v (.int .i64 t46)], [], σ => g hB hO r_ alone t44A t44N t44C t45 t46 σ
  | _, _, _ => False
def home_Home_share.S8 (K : Value → Store → Prop) (hB hO : Nat) (r_ : Int) (alone : Bool) (t44A : Option Addr) (t44N t44C : Nat) (t45 t46 : Int) (σ : Store) : Prop := SndF Pr F.home_Home_share home_Home_share.H home_Home_share.T K 8 [.v (.pointer (some ⟨hB, hO, none⟩)), .v (.int .i64 r_), .v (.bool alone), .v (.slice t44A t44N t44C), .v (.int .i64 t45), .v (.int .i64 t46)] [] σ
def home_Home_share.b8 (K : Value → Store → Prop) (r8 : home_Home_share.R8) (hB hO : Nat) (r_ : Int) (alone : Bool) (t44A : Option Addr) (t44N t44C : Nat) (t45 t46 : Int) (σ : Store) : Prop :=
  cond (decide (t46 < t45))
  (Req (decide (0 ≤ t46) && decide (t46 < ((t44N : Nat) : Int))) (
      PtrNN t44A fun t49B t49O =>
      ∃ t50 : Bool, cellAt σ t49B (t49O + t46.toNat * 1) = some (.bool t50) ∧
      cond alone
      (cond (!t50)
        (Hop (home_Home_share.T 8) (home_Home_share.T 8) (r8 hB hO r_ true t44A t44N t44C t45 (IntKind.wrap .i64 (t46 + 1)) σ))
        (Hop (home_Home_share.T 8) (home_Home_share.T 8) (r8 hB hO r_ (t46 == r_) t44A t44N t44C t45 (IntKind.wrap .i64 (t46 + 1)) σ)))
      (Hop (home_Home_share.T 8) (home_Home_share.T 8) (r8 hB hO r_ false t44A t44N t44C t45 (IntKind.wrap .i64 (t46 + 1)) σ))))
  (Hop (home_Home_share.T 12) (home_Home_share.T 12) (home_Home_share.j12 K hB hO r_ alone σ))
def home_Home_share.l8 (K : Value → Store → Prop) : Nat → home_Home_share.R8
  | 0, _, _, _, _, _, _, _, _, _, _ => False
  | n + 1, hB, hO, r_, alone, t44A, t44N, t44C, t45, t46, σ => home_Home_share.b8 K (home_Home_share.l8 K n) hB hO r_ alone t44A t44N t44C t45 t46 σ
def home_Home_share.d5 (g : home_Home_share.R5) : List AV → List (List Value) → Store → Prop
  | [.v (.pointer (some ⟨hB, hO, none⟩)), .v (.int .i64 r_)], [], σ => g hB hO r_ σ
  | _, _, _ => False
def home_Home_share.S5 (K : Value → Store → Prop) (hB hO : Nat) (r_ : Int) (σ : Store) : Prop := SndF Pr F.home_Home_share home_Home_share.H home_Home_share.T K 5 [.v (.pointer (some ⟨hB, hO, none⟩)), .v (.int .i64 r_)] [] σ
def home_Home_share.j5 (K : Value → Store → Prop) (hB hO : Nat) (r_ : Int) (σ : Store) : Prop :=
  StoreK σ hB (hO + 6) 1 [.int .i64 (-1)] fun σ_ =>
  ∃ t44A : Option Addr, ∃ t44N : Nat, ∃ t44C : Nat, cellAt σ_ hB (hO + 7) = some (.slice t44A t44N t44C) ∧
  Hop (home_Home_share.T 8) (home_Home_share.T 8) (∃ n : Nat, home_Home_share.l8 K n hB hO r_ true t44A t44N t44C ((t44N : Nat) : Int) 0 σ_)
def home_Home_share.d3 (g : home_Home_share.R3) : List AV → List (List Value) → Store → Prop
  | [.v (.pointer (some ⟨hB, hO, none⟩)), .v (.int .i64 r_), .v (.bool t23)], [], σ => g hB hO r_ t23 σ
  | _, _, _ => False
def home_Home_share.S3 (K : Value → Store → Prop) (hB hO : Nat) (r_ : Int) (t23 : Bool) (σ : Store) : Prop := SndF Pr F.home_Home_share home_Home_share.H home_Home_share.T K 3 [.v (.pointer (some ⟨hB, hO, none⟩)), .v (.int .i64 r_), .v (.bool t23)] [] σ
def home_Home_share.j3 (K : Value → Store → Prop) (hB hO : Nat) (r_ : Int) (t23 : Bool) (σ : Store) : Prop :=
  cond t23
  (∃ t28 : Int, cellAt σ hB (hO + 6) = some (.int .i64 t28) ∧
    StoreK σ hB (hO + 11) 1 [.int .i64 t28] fun σ_ =>
    ∃ t35 : Int, cellAt σ_ hB (hO + 6) = some (.int .i64 t35) ∧
    Spec Pr F.home_Home_to [.pointer (some ⟨hB, hO, none⟩), .int .i64 t35, .int .i64 5] σ_ fun v σ_1 => ∃ t360 : Int, ∃ t361 : Int, ∃ t362 : Int, ∃ t363 : Int, ∃ t364 : Int, ∃ t365 : Int, ∃ t366 : Int, ∃ t367 : Int, ∃ t368 : Bool, ∃ t369 : Bool, ∃ t3610 : Bool, v = .agg #[.int .i64 t360, .int .i64 t361, .int .i64 t362, .int .i64 t363, .int .u32 t364, .int .u32 t365, .int .u32 t366, .int .u32 t367, .bool t368, .bool t369, .bool t3610] ∧
    New σ_1 ⟨33, [.int .i64 t360, .int .i64 t361, .int .i64 t362, .int .i64 t363, .int .u32 t364, .int .u32 t365, .int .u32 t366, .int .u32 t367, .bool t368, .bool t369, .bool t3610], (0, 0)⟩ fun t37B σ_2 =>
    K (.slice (some ⟨t37B, 0, none⟩) 1 1) σ_2)
  (Hop (home_Home_share.T 5) (home_Home_share.T 5) (home_Home_share.j5 K hB hO r_ σ))
def home_Home_share.m (K : Value → Store → Prop) (hB hO : Nat) (σ : Store) : Prop :=
  ∃ t10 : Int, cellAt σ hB (hO + 9) = some (.int .i64 t10) ∧
  ∃ t14 : Int, cellAt σ hB (hO + 6) = some (.int .i64 t14) ∧
  cond (t14 != (-1))
  (∃ t20 : Int, cellAt σ hB (hO + 6) = some (.int .i64 t20) ∧
    Hop (home_Home_share.T 3) (home_Home_share.T 3) (home_Home_share.j3 K hB hO t10 (t20 != t10) σ))
  (Hop (home_Home_share.T 3) (home_Home_share.T 3) (home_Home_share.j3 K hB hO t10 false σ))
theorem home_Home_share.d15_ok {K : Value → Store → Prop} {g : home_Home_share.R15} (hg : ∀ hB hO alone σ, g hB hO alone σ → home_Home_share.S15 K hB hO alone σ) (vs : List AV) (bs : List (List Value)) (σ : Store) (h : home_Home_share.d15 g vs bs σ) : SndF Pr F.home_Home_share home_Home_share.H home_Home_share.T K 15 vs bs σ := by
  unfold home_Home_share.d15 at h
  split at h
  · exact hg _ _ _ _ h
  · exact h.elim
theorem home_Home_share.d12_ok {K : Value → Store → Prop} {g : home_Home_share.R12} (hg : ∀ hB hO r_ alone σ, g hB hO r_ alone σ → home_Home_share.S12 K hB hO r_ alone σ) (vs : List AV) (bs : List (List Value)) (σ : Store) (h : home_Home_share.d12 g vs bs σ) : SndF Pr F.home_Home_share home_Home_share.H home_Home_share.T K 12 vs bs σ := by
  unfold home_Home_share.d12 at h
  split at h
  · exact hg _ _ _ _ _ h
  · exact h.elim
theorem home_Home_share.d8_ok {K : Value → Store → Prop} {g : home_Home_share.R8} (hg : ∀ hB hO r_ alone t44A t44N t44C t45 t46 σ, g hB hO r_ alone t44A t44N t44C t45 t46 σ → home_Home_share.S8 K hB hO r_ alone t44A t44N t44C t45 t46 σ) (vs : List AV) (bs : List (List Value)) (σ : Store) (h : home_Home_share.d8 g vs bs σ) : SndF Pr F.home_Home_share home_Home_share.H home_Home_share.T K 8 vs bs σ := by
  unfold home_Home_share.d8 at h
  split at h
  · exact hg _ _ _ _ _ _ _ _ _ _ h
  · exact h.elim
theorem home_Home_share.d5_ok {K : Value → Store → Prop} {g : home_Home_share.R5} (hg : ∀ hB hO r_ σ, g hB hO r_ σ → home_Home_share.S5 K hB hO r_ σ) (vs : List AV) (bs : List (List Value)) (σ : Store) (h : home_Home_share.d5 g vs bs σ) : SndF Pr F.home_Home_share home_Home_share.H home_Home_share.T K 5 vs bs σ := by
  unfold home_Home_share.d5 at h
  split at h
  · exact hg _ _ _ _ h
  · exact h.elim
theorem home_Home_share.d3_ok {K : Value → Store → Prop} {g : home_Home_share.R3} (hg : ∀ hB hO r_ t23 σ, g hB hO r_ t23 σ → home_Home_share.S3 K hB hO r_ t23 σ) (vs : List AV) (bs : List (List Value)) (σ : Store) (h : home_Home_share.d3 g vs bs σ) : SndF Pr F.home_Home_share home_Home_share.H home_Home_share.T K 3 vs bs σ := by
  unfold home_Home_share.d3 at h
  split at h
  · exact hg _ _ _ _ _ h
  · exact h.elim
noncomputable def home_Home_share.h15 (K : Value → Store → Prop) : Hand := hsel []
theorem home_Home_share.j15_eq (K : Value → Store → Prop) (hB hO : Nat) (alone : Bool) (σ : Store) : (seg Pr home_Home_share.H F.home_Home_share home_Home_share.T (home_Home_share.h15 K ) K (home_Home_share.T 15) (Ev.cutE home_Home_share.H 15 [.v (.pointer (some ⟨hB, hO, none⟩)), .v (.bool alone)] []) σ) = home_Home_share.j15 K hB hO alone σ := by kernel_rfl
theorem home_Home_share.j15_ok (K : Value → Store → Prop) (hB hO : Nat) (alone : Bool) (σ : Store) (h : home_Home_share.j15 K hB hO alone σ) : home_Home_share.S15 K hB hO alone σ := by
  rw [← home_Home_share.j15_eq] at h
  exact seg_snd Pr_mixed (hsel_sound fun x hx => by
    cases hx) h
noncomputable def home_Home_share.h12 (K : Value → Store → Prop) : Hand := hsel [(15, home_Home_share.d15 (home_Home_share.j15 K ))]
theorem home_Home_share.j12_eq (K : Value → Store → Prop) (hB hO : Nat) (r_ : Int) (alone : Bool) (σ : Store) : (seg Pr home_Home_share.H F.home_Home_share home_Home_share.T (home_Home_share.h12 K ) K (home_Home_share.T 12) (Ev.cutE home_Home_share.H 12 [.v (.pointer (some ⟨hB, hO, none⟩)), .v (.int .i64 r_), .v (.bool alone)] []) σ) = home_Home_share.j12 K hB hO r_ alone σ := by kernel_rfl
theorem home_Home_share.j12_ok (K : Value → Store → Prop) (hB hO : Nat) (r_ : Int) (alone : Bool) (σ : Store) (h : home_Home_share.j12 K hB hO r_ alone σ) : home_Home_share.S12 K hB hO r_ alone σ := by
  rw [← home_Home_share.j12_eq] at h
  exact seg_snd Pr_mixed (hsel_sound fun x hx => by
    simp only [List.mem_cons, List.not_mem_nil, or_false] at hx
    subst hx
    exact home_Home_share.d15_ok fun _ _ _ _ h => home_Home_share.j15_ok K _ _ _ _ h) h
noncomputable def home_Home_share.h8 (K : Value → Store → Prop) (r8 : home_Home_share.R8) : Hand := hsel [(12, home_Home_share.d12 (home_Home_share.j12 K )), (8, home_Home_share.d8 r8)]
theorem home_Home_share.b8_eq (K : Value → Store → Prop) (r8 : home_Home_share.R8) (hB hO : Nat) (r_ : Int) (alone : Bool) (t44A : Option Addr) (t44N t44C : Nat) (t45 t46 : Int) (σ : Store) : (seg Pr home_Home_share.H F.home_Home_share home_Home_share.T (home_Home_share.h8 K r8) K (home_Home_share.T 8) (Ev.cutE home_Home_share.H 8 [.v (.pointer (some ⟨hB, hO, none⟩)), .v (.int .i64 r_), .v (.bool alone), .v (.slice t44A t44N t44C), .v (.int .i64 t45), .v (.int .i64 t46)] []) σ) = home_Home_share.b8 K r8 hB hO r_ alone t44A t44N t44C t45 t46 σ := by kernel_rfl
theorem home_Home_share.b8_ok (K : Value → Store → Prop) (r8 : home_Home_share.R8) (h8 : ∀ hB hO r_ alone t44A t44N t44C t45 t46 σ, r8 hB hO r_ alone t44A t44N t44C t45 t46 σ → home_Home_share.S8 K hB hO r_ alone t44A t44N t44C t45 t46 σ) (hB hO : Nat) (r_ : Int) (alone : Bool) (t44A : Option Addr) (t44N t44C : Nat) (t45 t46 : Int) (σ : Store) (h : home_Home_share.b8 K r8 hB hO r_ alone t44A t44N t44C t45 t46 σ) : home_Home_share.S8 K hB hO r_ alone t44A t44N t44C t45 t46 σ := by
  rw [← home_Home_share.b8_eq] at h
  exact seg_snd Pr_mixed (hsel_sound fun x hx => by
    simp only [List.mem_cons, List.not_mem_nil, or_false] at hx
    rcases hx with rfl | rfl
    · exact home_Home_share.d12_ok fun _ _ _ _ _ h => home_Home_share.j12_ok K _ _ _ _ _ h
    · exact home_Home_share.d8_ok h8) h
theorem home_Home_share.l8_ok (K : Value → Store → Prop) : ∀ (n : Nat) (hB hO : Nat) (r_ : Int) (alone : Bool) (t44A : Option Addr) (t44N t44C : Nat) (t45 t46 : Int) (σ : Store), home_Home_share.l8 K n hB hO r_ alone t44A t44N t44C t45 t46 σ → home_Home_share.S8 K hB hO r_ alone t44A t44N t44C t45 t46 σ
  | 0, _, _, _, _, _, _, _, _, _, _, h => h.elim
  | n + 1, _, _, _, _, _, _, _, _, _, _, h => home_Home_share.b8_ok K (home_Home_share.l8 K n) (home_Home_share.l8_ok K n) _ _ _ _ _ _ _ _ _ _ h
noncomputable def home_Home_share.h5 (K : Value → Store → Prop) : Hand := hsel [(8, home_Home_share.d8 fun hB hO r_ alone t44A t44N t44C t45 t46 σ => ∃ n : Nat, home_Home_share.l8 K n hB hO r_ alone t44A t44N t44C t45 t46 σ)]
theorem home_Home_share.j5_eq (K : Value → Store → Prop) (hB hO : Nat) (r_ : Int) (σ : Store) : (seg Pr home_Home_share.H F.home_Home_share home_Home_share.T (home_Home_share.h5 K ) K (home_Home_share.T 5) (Ev.cutE home_Home_share.H 5 [.v (.pointer (some ⟨hB, hO, none⟩)), .v (.int .i64 r_)] []) σ) = home_Home_share.j5 K hB hO r_ σ := by kernel_rfl
theorem home_Home_share.j5_ok (K : Value → Store → Prop) (hB hO : Nat) (r_ : Int) (σ : Store) (h : home_Home_share.j5 K hB hO r_ σ) : home_Home_share.S5 K hB hO r_ σ := by
  rw [← home_Home_share.j5_eq] at h
  exact seg_snd Pr_mixed (hsel_sound fun x hx => by
    simp only [List.mem_cons, List.not_mem_nil, or_false] at hx
    subst hx
    exact home_Home_share.d8_ok fun _ _ _ _ _ _ _ _ _ _ ⟨n, h⟩ => home_Home_share.l8_ok K n _ _ _ _ _ _ _ _ _ _ h) h
noncomputable def home_Home_share.h3 (K : Value → Store → Prop) : Hand := hsel [(5, home_Home_share.d5 (home_Home_share.j5 K ))]
theorem home_Home_share.j3_eq (K : Value → Store → Prop) (hB hO : Nat) (r_ : Int) (t23 : Bool) (σ : Store) : (seg Pr home_Home_share.H F.home_Home_share home_Home_share.T (home_Home_share.h3 K ) K (home_Home_share.T 3) (Ev.cutE home_Home_share.H 3 [.v (.pointer (some ⟨hB, hO, none⟩)), .v (.int .i64 r_), .v (.bool t23)] []) σ) = home_Home_share.j3 K hB hO r_ t23 σ := by kernel_rfl
theorem home_Home_share.j3_ok (K : Value → Store → Prop) (hB hO : Nat) (r_ : Int) (t23 : Bool) (σ : Store) (h : home_Home_share.j3 K hB hO r_ t23 σ) : home_Home_share.S3 K hB hO r_ t23 σ := by
  rw [← home_Home_share.j3_eq] at h
  exact seg_snd Pr_mixed (hsel_sound fun x hx => by
    simp only [List.mem_cons, List.not_mem_nil, or_false] at hx
    subst hx
    exact home_Home_share.d5_ok fun _ _ _ _ h => home_Home_share.j5_ok K _ _ _ _ h) h
noncomputable def home_Home_share.h (K : Value → Store → Prop) : Hand := hsel [(3, home_Home_share.d3 (home_Home_share.j3 K ))]
theorem home_Home_share.m_eq (K : Value → Store → Prop) (hB hO : Nat) (σ : Store) : (segF Pr home_Home_share.H F.home_Home_share home_Home_share.T (home_Home_share.h K) K [.pointer (some ⟨hB, hO, none⟩)] σ) = home_Home_share.m K hB hO σ := by kernel_rfl
theorem home_Home_share.ok {K : Value → Store → Prop} {hB hO : Nat} {σ : Store} (h : home_Home_share.m K hB hO σ) : Spec Pr F.home_Home_share [.pointer (some ⟨hB, hO, none⟩)] σ K := by
  rw [← home_Home_share.m_eq] at h
  exact segF_spec Pr_mixed (hsel_sound fun x hx => by
    simp only [List.mem_cons, List.not_mem_nil, or_false] at hx
    subst hx
    exact home_Home_share.d3_ok fun _ _ _ _ _ h => home_Home_share.j3_ok K _ _ _ _ _ h) h

/-! ### (*corral/home.Home).shared -/
def home_Home_shared.H : Hints := { esc := [], cuts := [(5, [0], [(3, 33), (5, 25)]), (8, [0], [(5, 25)]), (9, [0], [(5, 25)])] }
noncomputable def home_Home_shared.T : Nat → List Item := stk Pr F.home_Home_shared [(5, [1, 1, 1, 1]), (8, [1, 1, 1, 1, 0, 1, 0, 1]), (9, [1, 1, 1, 1, 1])]
abbrev home_Home_shared.R9 : Type := Nat → Nat → Int → Int → Int → Int → Store → Prop
abbrev home_Home_shared.R8 : Type := Nat → Nat → Int → Int → Int → Int → Store → Prop
abbrev home_Home_shared.R5 : Type := Nat → Nat → Int → Int → Int → Int → Int → Int → Int → Int → Bool → Bool → Bool → Int → Int → Int → Int → Store → Prop
def home_Home_shared.d9 (g : home_Home_shared.R9) : List AV → List (List Value) → Store → Prop
  | [.v (.pointer (some ⟨hB, hO, none⟩))], [[.int .u32 data0, .int .u32 data1, .int .u32 data2, .int .u32 data3]], σ => g hB hO data0 data1 data2 data3 σ
  | _, _, _ => False
def home_Home_shared.S9 (K : Value → Store → Prop) (hB hO : Nat) (data0 data1 data2 data3 : Int) (σ : Store) : Prop := SndF Pr F.home_Home_shared home_Home_shared.H home_Home_shared.T K 9 [.v (.pointer (some ⟨hB, hO, none⟩))] [[.int .u32 data0, .int .u32 data1, .int .u32 data2, .int .u32 data3]] σ
def home_Home_shared.j9 (K : Value → Store → Prop) (hB hO : Nat) (data0 data1 data2 data3 : Int) (σ : Store) : Prop :=
  Spec Pr F.home_Home_hand [.pointer (some ⟨hB, hO, none⟩), .agg #[.int .u32 data0, .int .u32 data1, .int .u32 data2, .int .u32 data3], .bool false, .bool false] σ fun v σ_ => ∃ t46A : Option Addr, ∃ t46N : Nat, ∃ t46C : Nat, v = .slice t46A t46N t46C ∧
  K (.slice t46A t46N t46C) σ_
def home_Home_shared.d8 (g : home_Home_shared.R8) : List AV → List (List Value) → Store → Prop
  | [.v (.pointer (some ⟨hB, hO, none⟩))], [[.int .u32 data0, .int .u32 data1, .int .u32 data2, .int .u32 data3]], σ => g hB hO data0 data1 data2 data3 σ
  | _, _, _ => False
def home_Home_shared.S8 (K : Value → Store → Prop) (hB hO : Nat) (data0 data1 data2 data3 : Int) (σ : Store) : Prop := SndF Pr F.home_Home_shared home_Home_shared.H home_Home_shared.T K 8 [.v (.pointer (some ⟨hB, hO, none⟩))] [[.int .u32 data0, .int .u32 data1, .int .u32 data2, .int .u32 data3]] σ
def home_Home_shared.j8 (K : Value → Store → Prop) (hB hO : Nat) (data0 data1 data2 data3 : Int) (σ : Store) : Prop :=
  StoreK σ hB (hO + 6) 1 [.int .i64 (-1)] fun σ_ =>
  Hop (home_Home_shared.T 9) (home_Home_shared.T 9) (home_Home_shared.j9 K hB hO data0 data1 data2 data3 σ_)
def home_Home_shared.d5 (g : home_Home_shared.R5) : List AV → List (List Value) → Store → Prop
  | [.v (.pointer (some ⟨hB, hO, none⟩))], [[.int .i64 m0, .int .i64 m1, .int .i64 m2, .int .i64 m3, .int .u32 m4, .int .u32 m5, .int .u32 m6, .int .u32 m7, .bool m8, .bool m9, .bool m10], [.int .u32 data0, .int .u32 data1, .int .u32 data2, .int .u32 data3]], σ => g hB hO m0 m1 m2 m3 m4 m5 m6 m7 m8 m9 m10 data0 data1 data2 data3 σ
  | _, _, _ => False
def home_Home_shared.S5 (K : Value → Store → Prop) (hB hO : Nat) (m0 m1 m2 m3 m4 m5 m6 m7 : Int) (m8 m9 m10 : Bool) (data0 data1 data2 data3 : Int) (σ : Store) : Prop := SndF Pr F.home_Home_shared home_Home_shared.H home_Home_shared.T K 5 [.v (.pointer (some ⟨hB, hO, none⟩))] [[.int .i64 m0, .int .i64 m1, .int .i64 m2, .int .i64 m3, .int .u32 m4, .int .u32 m5, .int .u32 m6, .int .u32 m7, .bool m8, .bool m9, .bool m10], [.int .u32 data0, .int .u32 data1, .int .u32 data2, .int .u32 data3]] σ
def home_Home_shared.j5 (K : Value → Store → Prop) (hB hO : Nat) (m0 m1 m2 m3 m4 m5 m6 m7 : Int) (m8 m9 m10 : Bool) (data0 data1 data2 data3 : Int) (σ : Store) : Prop :=
  cond (!m9)
  (cond m8
    (∃ t35A : Option Addr, ∃ t35N : Nat, ∃ t35C : Nat, cellAt σ hB (hO + 7) = some (.slice t35A t35N t35C) ∧
      ∃ t39 : Int, cellAt σ hB (hO + 6) = some (.int .i64 t39) ∧
      Req (decide (0 ≤ t39) && decide (t39 < ((t35N : Nat) : Int))) (
        PtrNN t35A fun t40B t40O =>
        StoreK σ t40B (t40O + t39.toNat * 1) 1 [.bool true] fun σ_ =>
        Hop (home_Home_shared.T 8) (home_Home_shared.T 8) (home_Home_shared.j8 K hB hO data0 data1 data2 data3 σ_)))
    (Hop (home_Home_shared.T 8) (home_Home_shared.T 8) (home_Home_shared.j8 K hB hO data0 data1 data2 data3 σ)))
  (Hop (home_Home_shared.T 9) (home_Home_shared.T 9) (home_Home_shared.j9 K hB hO data0 data1 data2 data3 σ))
def home_Home_shared.m (K : Value → Store → Prop) (hB hO : Nat) (m0 m1 m2 m3 m4 m5 m6 m7 : Int) (m8 m9 m10 : Bool) (σ : Store) : Prop :=
  ∃ t9A : Option Addr, ∃ t9N : Nat, ∃ t9C : Nat, cellAt σ hB (hO + 7) = some (.slice t9A t9N t9C) ∧
  ∃ t13 : Int, cellAt σ hB (hO + 9) = some (.int .i64 t13) ∧
  Req (decide (0 ≤ t13) && decide (t13 < ((t9N : Nat) : Int))) (
    PtrNN t9A fun t14B t14O =>
    StoreK σ t14B (t14O + t13.toNat * 1) 1 [.bool true] fun σ_ =>
    ∃ t180 : Int, ∃ t181 : Int, ∃ t182 : Int, ∃ t183 : Int, cellsAt σ_ hB (hO + 2) 4 = some [.int .u32 t180, .int .u32 t181, .int .u32 t182, .int .u32 t183] ∧
    cond m9
    (Hop (home_Home_shared.T 5) (home_Home_shared.T 5) (home_Home_shared.j5 K hB hO m0 m1 m2 m3 m4 m5 m6 m7 m8 m9 m10 m4 m5 m6 m7 σ_))
    (cond m8
      (Hop (home_Home_shared.T 5) (home_Home_shared.T 5) (home_Home_shared.j5 K hB hO m0 m1 m2 m3 m4 m5 m6 m7 m8 m9 m10 m4 m5 m6 m7 σ_))
      (Hop (home_Home_shared.T 5) (home_Home_shared.T 5) (home_Home_shared.j5 K hB hO m0 m1 m2 m3 m4 m5 m6 m7 m8 m9 m10 t180 t181 t182 t183 σ_))))
theorem home_Home_shared.d9_ok {K : Value → Store → Prop} {g : home_Home_shared.R9} (hg : ∀ hB hO data0 data1 data2 data3 σ, g hB hO data0 data1 data2 data3 σ → home_Home_shared.S9 K hB hO data0 data1 data2 data3 σ) (vs : List AV) (bs : List (List Value)) (σ : Store) (h : home_Home_shared.d9 g vs bs σ) : SndF Pr F.home_Home_shared home_Home_shared.H home_Home_shared.T K 9 vs bs σ := by
  unfold home_Home_shared.d9 at h
  split at h
  · exact hg _ _ _ _ _ _ _ h
  · exact h.elim
theorem home_Home_shared.d8_ok {K : Value → Store → Prop} {g : home_Home_shared.R8} (hg : ∀ hB hO data0 data1 data2 data3 σ, g hB hO data0 data1 data2 data3 σ → home_Home_shared.S8 K hB hO data0 data1 data2 data3 σ) (vs : List AV) (bs : List (List Value)) (σ : Store) (h : home_Home_shared.d8 g vs bs σ) : SndF Pr F.home_Home_shared home_Home_shared.H home_Home_shared.T K 8 vs bs σ := by
  unfold home_Home_shared.d8 at h
  split at h
  · exact hg _ _ _ _ _ _ _ h
  · exact h.elim
theorem home_Home_shared.d5_ok {K : Value → Store → Prop} {g : home_Home_shared.R5} (hg : ∀ hB hO m0 m1 m2 m3 m4 m5 m6 m7 m8 m9 m10 data0 data1 data2 data3 σ, g hB hO m0 m1 m2 m3 m4 m5 m6 m7 m8 m9 m10 data0 data1 data2 data3 σ → home_Home_shared.S5 K hB hO m0 m1 m2 m3 m4 m5 m6 m7 m8 m9 m10 data0 data1 data2 data3 σ) (vs : List AV) (bs : List (List Value)) (σ : Store) (h : home_Home_shared.d5 g vs bs σ) : SndF Pr F.home_Home_shared home_Home_shared.H home_Home_shared.T K 5 vs bs σ := by
  unfold home_Home_shared.d5 at h
  split at h
  · exact hg _ _ _ _ _ _ _ _ _ _ _ _ _ _ _ _ _ _ h
  · exact h.elim
noncomputable def home_Home_shared.h9 (K : Value → Store → Prop) : Hand := hsel []
theorem home_Home_shared.j9_eq (K : Value → Store → Prop) (hB hO : Nat) (data0 data1 data2 data3 : Int) (σ : Store) : (seg Pr home_Home_shared.H F.home_Home_shared home_Home_shared.T (home_Home_shared.h9 K ) K (home_Home_shared.T 9) (Ev.cutE home_Home_shared.H 9 [.v (.pointer (some ⟨hB, hO, none⟩))] [[.int .u32 data0, .int .u32 data1, .int .u32 data2, .int .u32 data3]]) σ) = home_Home_shared.j9 K hB hO data0 data1 data2 data3 σ := by kernel_rfl
theorem home_Home_shared.j9_ok (K : Value → Store → Prop) (hB hO : Nat) (data0 data1 data2 data3 : Int) (σ : Store) (h : home_Home_shared.j9 K hB hO data0 data1 data2 data3 σ) : home_Home_shared.S9 K hB hO data0 data1 data2 data3 σ := by
  rw [← home_Home_shared.j9_eq] at h
  exact seg_snd Pr_mixed (hsel_sound fun x hx => by
    cases hx) h
noncomputable def home_Home_shared.h8 (K : Value → Store → Prop) : Hand := hsel [(9, home_Home_shared.d9 (home_Home_shared.j9 K ))]
theorem home_Home_shared.j8_eq (K : Value → Store → Prop) (hB hO : Nat) (data0 data1 data2 data3 : Int) (σ : Store) : (seg Pr home_Home_shared.H F.home_Home_shared home_Home_shared.T (home_Home_shared.h8 K ) K (home_Home_shared.T 8) (Ev.cutE home_Home_shared.H 8 [.v (.pointer (some ⟨hB, hO, none⟩))] [[.int .u32 data0, .int .u32 data1, .int .u32 data2, .int .u32 data3]]) σ) = home_Home_shared.j8 K hB hO data0 data1 data2 data3 σ := by kernel_rfl
theorem home_Home_shared.j8_ok (K : Value → Store → Prop) (hB hO : Nat) (data0 data1 data2 data3 : Int) (σ : Store) (h : home_Home_shared.j8 K hB hO data0 data1 data2 data3 σ) : home_Home_shared.S8 K hB hO data0 data1 data2 data3 σ := by
  rw [← home_Home_shared.j8_eq] at h
  exact seg_snd Pr_mixed (hsel_sound fun x hx => by
    simp only [List.mem_cons, List.not_mem_nil, or_false] at hx
    subst hx
    exact home_Home_shared.d9_ok fun _ _ _ _ _ _ _ h => home_Home_shared.j9_ok K _ _ _ _ _ _ _ h) h
noncomputable def home_Home_shared.h5 (K : Value → Store → Prop) : Hand := hsel [(8, home_Home_shared.d8 (home_Home_shared.j8 K )), (9, home_Home_shared.d9 (home_Home_shared.j9 K ))]
theorem home_Home_shared.j5_eq (K : Value → Store → Prop) (hB hO : Nat) (m0 m1 m2 m3 m4 m5 m6 m7 : Int) (m8 m9 m10 : Bool) (data0 data1 data2 data3 : Int) (σ : Store) : (seg Pr home_Home_shared.H F.home_Home_shared home_Home_shared.T (home_Home_shared.h5 K ) K (home_Home_shared.T 5) (Ev.cutE home_Home_shared.H 5 [.v (.pointer (some ⟨hB, hO, none⟩))] [[.int .i64 m0, .int .i64 m1, .int .i64 m2, .int .i64 m3, .int .u32 m4, .int .u32 m5, .int .u32 m6, .int .u32 m7, .bool m8, .bool m9, .bool m10], [.int .u32 data0, .int .u32 data1, .int .u32 data2, .int .u32 data3]]) σ) = home_Home_shared.j5 K hB hO m0 m1 m2 m3 m4 m5 m6 m7 m8 m9 m10 data0 data1 data2 data3 σ := by kernel_rfl
theorem home_Home_shared.j5_ok (K : Value → Store → Prop) (hB hO : Nat) (m0 m1 m2 m3 m4 m5 m6 m7 : Int) (m8 m9 m10 : Bool) (data0 data1 data2 data3 : Int) (σ : Store) (h : home_Home_shared.j5 K hB hO m0 m1 m2 m3 m4 m5 m6 m7 m8 m9 m10 data0 data1 data2 data3 σ) : home_Home_shared.S5 K hB hO m0 m1 m2 m3 m4 m5 m6 m7 m8 m9 m10 data0 data1 data2 data3 σ := by
  rw [← home_Home_shared.j5_eq] at h
  exact seg_snd Pr_mixed (hsel_sound fun x hx => by
    simp only [List.mem_cons, List.not_mem_nil, or_false] at hx
    rcases hx with rfl | rfl
    · exact home_Home_shared.d8_ok fun _ _ _ _ _ _ _ h => home_Home_shared.j8_ok K _ _ _ _ _ _ _ h
    · exact home_Home_shared.d9_ok fun _ _ _ _ _ _ _ h => home_Home_shared.j9_ok K _ _ _ _ _ _ _ h) h
noncomputable def home_Home_shared.h (K : Value → Store → Prop) : Hand := hsel [(5, home_Home_shared.d5 (home_Home_shared.j5 K ))]
theorem home_Home_shared.m_eq (K : Value → Store → Prop) (hB hO : Nat) (m0 m1 m2 m3 m4 m5 m6 m7 : Int) (m8 m9 m10 : Bool) (σ : Store) : (segF Pr home_Home_shared.H F.home_Home_shared home_Home_shared.T (home_Home_shared.h K) K [.pointer (some ⟨hB, hO, none⟩), .agg #[.int .i64 m0, .int .i64 m1, .int .i64 m2, .int .i64 m3, .int .u32 m4, .int .u32 m5, .int .u32 m6, .int .u32 m7, .bool m8, .bool m9, .bool m10]] σ) = home_Home_shared.m K hB hO m0 m1 m2 m3 m4 m5 m6 m7 m8 m9 m10 σ := by kernel_rfl
theorem home_Home_shared.ok {K : Value → Store → Prop} {hB hO : Nat} {m0 m1 m2 m3 m4 m5 m6 m7 : Int} {m8 m9 m10 : Bool} {σ : Store} (h : home_Home_shared.m K hB hO m0 m1 m2 m3 m4 m5 m6 m7 m8 m9 m10 σ) : Spec Pr F.home_Home_shared [.pointer (some ⟨hB, hO, none⟩), .agg #[.int .i64 m0, .int .i64 m1, .int .i64 m2, .int .i64 m3, .int .u32 m4, .int .u32 m5, .int .u32 m6, .int .u32 m7, .bool m8, .bool m9, .bool m10]] σ K := by
  rw [← home_Home_shared.m_eq] at h
  exact segF_spec Pr_mixed (hsel_sound fun x hx => by
    simp only [List.mem_cons, List.not_mem_nil, or_false] at hx
    subst hx
    exact home_Home_shared.d5_ok fun _ _ _ _ _ _ _ _ _ _ _ _ _ _ _ _ _ _ h => home_Home_shared.j5_ok K _ _ _ _ _ _ _ _ _ _ _ _ _ _ _ _ _ _ h) h

/-! ### (*corral/home.Home).own -/
def home_Home_own.H : Hints := { esc := [], cuts := [(3, [0, 3, 10, 11, 12], []), (6, [0, 3, 4, 10, 11, 12, 25], []), (8, [0, 3], []), (9, [0, 3, 48], []), (10, [0, 3], []), (11, [0, 3, 59, 60], []), (15, [0, 3, 6, 59, 60], []), (18, [0, 3], [])] }
noncomputable def home_Home_own.T : Nat → List Item := stk Pr F.home_Home_own [(3, [1, 1, 0, 1, 0, 0]), (6, [1, 1, 0, 1, 0, 0, 1, 1, 0, 0, 1, 1]), (8, [1, 1, 1]), (9, [1, 1, 1, 0, 1]), (10, [1, 1, 1, 1]), (11, [1, 1, 1, 1, 0, 1, 0, 0]), (15, [1, 1, 1, 1, 0, 1, 0, 0, 1, 1, 0, 0, 1, 1]), (18, [1, 1, 1, 1, 1])]
abbrev home_Home_own.R6 : Type := Nat → Nat → Option Addr → Nat → Nat → Int → Option Addr → Nat → Nat → Int → Int → Bool → Store → Prop
abbrev home_Home_own.R15 : Type := Nat → Nat → Option Addr → Nat → Nat → Int → Int → Int → Store → Prop
abbrev home_Home_own.R18 : Type := Nat → Nat → Option Addr → Nat → Nat → Store → Prop
abbrev home_Home_own.R11 : Type := Nat → Nat → Option Addr → Nat → Nat → Int → Int → Store → Prop
abbrev home_Home_own.R10 : Type := Nat → Nat → Option Addr → Nat → Nat → Store → Prop
abbrev home_Home_own.R9 : Type := Nat → Nat → Option Addr → Nat → Nat → Bool → Store → Prop
abbrev home_Home_own.R8 : Type := Nat → Nat → Option Addr → Nat → Nat → Store → Prop
abbrev home_Home_own.R3 : Type := Nat → Nat → Option Addr → Nat → Nat → Option Addr → Nat → Nat → Int → Int → Store → Prop
def home_Home_own.d6 (g : home_Home_own.R6) : List AV → List (List Value) → Store → Prop
  | [.v (.pointer (some ⟨hB, hO, none⟩)), .v (.slice lA lN lC), .v (.int .i64 i), .v (.slice t10A t10N t10C), .v (.int .i64 t11), .v (.int .i64 t12), .v (.bool t25)], [], σ => g hB hO lA lN lC i t10A t10N t10C t11 t12 t25 σ
  | _, _, _ => False
def home_Home_own.S6 (K : Value → Store → Prop) (hB hO : Nat) (lA : Option Addr) (lN lC : Nat) (i : Int) (t10A : Option Addr) (t10N t10C : Nat) (t11 t12 : Int) (t25 : Bool) (σ : Store) : Prop := SndF Pr F.home_Home_own home_Home_own.H home_Home_own.T K 6 [.v (.pointer (some ⟨hB, hO, none⟩)), .v (.slice lA lN lC), .v (.int .i64 i), .v (.slice t10A t10N t10C), .v (.int .i64 t11), .v (.int .i64 t12), .v (.bool t25)] [] σ
def home_Home_own.j6 (K : Value → Store → Prop) (r3 : home_Home_own.R3) (hB hO : Nat) (lA : Option Addr) (lN lC : Nat) (i : Int) (t10A : Option Addr) (t10N t10C : Nat) (t11 t12 : Int) (t25 : Bool) (σ : Store) : Prop :=
  cond t25
  (∃ t29A : Option Addr, ∃ t29N : Nat, ∃ t29C : Nat, cellAt σ hB (hO + 12) = some (.slice t29A t29N t29C) ∧
    Req (decide (0 ≤ i) && decide (i < ((t29N : Nat) : Int))) (
      PtrNN t29A fun t31B t31O =>
      StoreK σ t31B (t31O + i.toNat * 1) 1 [.bool true] fun σ_ =>
      Hop (home_Home_own.T 3) (home_Home_own.T 3) (r3 hB hO lA lN lC t10A t10N t10C t11 (IntKind.wrap .i64 (t12 + 1)) σ_)))
  (Hop (home_Home_own.T 3) (home_Home_own.T 3) (r3 hB hO lA lN lC t10A t10N t10C t11 (IntKind.wrap .i64 (t12 + 1)) σ))
def home_Home_own.d15 (g : home_Home_own.R15) : List AV → List (List Value) → Store → Prop
  | [.v (.pointer (some ⟨hB, hO, none⟩)), .v (.slice lA lN lC), .v (.int .i64 i), .v (.int .i64 t59), .v (.int .i64 t60)], [], σ => g hB hO lA lN lC i t59 t60 σ
  | _, _, _ => False
def home_Home_own.S15 (K : Value → Store → Prop) (hB hO : Nat) (lA : Option Addr) (lN lC : Nat) (i t59 t60 : Int) (σ : Store) : Prop := SndF Pr F.home_Home_own home_Home_own.H home_Home_own.T K 15 [.v (.pointer (some ⟨hB, hO, none⟩)), .v (.slice lA lN lC), .v (.int .i64 i), .v (.int .i64 t59), .v (.int .i64 t60)] [] σ
def home_Home_own.j15 (K : Value → Store → Prop) (r11 : home_Home_own.R11) (hB hO : Nat) (lA : Option Addr) (lN lC : Nat) (i t59 t60 : Int) (σ : Store) : Prop :=
  ∃ t79 : Int, cellAt σ hB (hO + 11) = some (.int .i64 t79) ∧
  cond (t79 == i)
  (Spec Pr F.home_Home_to [.pointer (some ⟨hB, hO, none⟩), .int .i64 i, .int .i64 6] σ fun v σ_ => ∃ t850 : Int, ∃ t851 : Int, ∃ t852 : Int, ∃ t853 : Int, ∃ t854 : Int, ∃ t855 : Int, ∃ t856 : Int, ∃ t857 : Int, ∃ t858 : Bool, ∃ t859 : Bool, ∃ t8510 : Bool, v = .agg #[.int .i64 t850, .int .i64 t851, .int .i64 t852, .int .i64 t853, .int .u32 t854, .int .u32 t855, .int .u32 t856, .int .u32 t857, .bool t858, .bool t859, .bool t8510] ∧
    AppK 33 11 56 [.int .i64 0, .int .i64 0, .int .i64 0, .int .i64 0, .int .u32 0, .int .u32 0, .int .u32 0, .int .u32 0, .bool false, .bool false, .bool false] σ_ lA lN lC [.int .i64 t850, .int .i64 t851, .int .i64 t852, .int .i64 t853, .int .u32 t854, .int .u32 t855, .int .u32 t856, .int .u32 t857, .bool t858, .bool t859, .bool t8510] 1 fun t87A t87N t87C σ_1 =>
    Hop (home_Home_own.T 11) (home_Home_own.T 11) (r11 hB hO t87A t87N t87C t59 (IntKind.wrap .i64 (t60 + 1)) σ_1))
  (Hop (home_Home_own.T 11) (home_Home_own.T 11) (r11 hB hO lA lN lC t59 (IntKind.wrap .i64 (t60 + 1)) σ))
def home_Home_own.d18 (g : home_Home_own.R18) : List AV → List (List Value) → Store → Prop
  | [.v (.pointer (some ⟨hB, hO, none⟩)), .v (.slice lA lN lC)], [], σ => g hB hO lA lN lC σ
  | _, _, _ => False
def home_Home_own.S18 (K : Value → Store → Prop) (hB hO : Nat) (lA : Option Addr) (lN lC : Nat) (σ : Store) : Prop := SndF Pr F.home_Home_own home_Home_own.H home_Home_own.T K 18 [.v (.pointer (some ⟨hB, hO, none⟩)), .v (.slice lA lN lC)] [] σ
def home_Home_own.j18 (K : Value → Store → Prop) (hB hO : Nat) (lA : Option Addr) (lN lC : Nat) (σ : Store) : Prop :=
  cond (decide (((lN : Nat) : Int) > 0))
  (K (.slice lA lN lC) σ)
  (Spec Pr F.home_Home_owned [.pointer (some ⟨hB, hO, none⟩)] σ fun v σ_ => ∃ t94A : Option Addr, ∃ t94N : Nat, ∃ t94C : Nat, v = .slice t94A t94N t94C ∧
    K (.slice t94A t94N t94C) σ_)
def home_Home_own.d11 (g : home_Home_own.R11) : List AV → List (List Value) → Store → Prop
  | [.v (.pointer (some ⟨hB, hO, none⟩)), .v (.slice lA lN lC), .v (.int .i64 t59), .v (.int .i64 t60)], [], σ => g hB hO lA lN lC t59 t60 σ
  | _, _, _ => False
def home_Home_own.S11 (K : Value → Store → Prop) (hB hO : Nat) (lA : Option Addr) (lN lC : Nat) (t59 t60 : Int) (σ : Store) : Prop := SndF Pr F.home_Home_own home_Home_own.H home_Home_own.T K 11 [.v (.pointer (some ⟨hB, hO, none⟩)), .v (.slice lA lN lC), .v (.int .i64 t59), .v (.int .i64 t60)] [] σ
def home_Home_own.b11 (K : Value → Store → Prop) (r11 : home_Home_own.R11) (hB hO : Nat) (lA : Option Addr) (lN lC : Nat) (t59 t60 : Int) (σ : Store) : Prop :=
  cond (decide (t60 < t59))
  (∃ t66A : Option Addr, ∃ t66N : Nat, ∃ t66C : Nat, cellAt σ hB (hO + 12) = some (.slice t66A t66N t66C) ∧
    Req (decide (0 ≤ t60) && decide (t60 < ((t66N : Nat) : Int))) (
      PtrNN t66A fun t68B t68O =>
      ∃ t69 : Bool, cellAt σ t68B (t68O + t60.toNat * 1) = some (.bool t69) ∧
      cond t69
      (Spec Pr F.home_Home_to [.pointer (some ⟨hB, hO, none⟩), .int .i64 t60, .int .i64 4] σ fun v σ_ => ∃ t730 : Int, ∃ t731 : Int, ∃ t732 : Int, ∃ t733 : Int, ∃ t734 : Int, ∃ t735 : Int, ∃ t736 : Int, ∃ t737 : Int, ∃ t738 : Bool, ∃ t739 : Bool, ∃ t7310 : Bool, v = .agg #[.int .i64 t730, .int .i64 t731, .int .i64 t732, .int .i64 t733, .int .u32 t734, .int .u32 t735, .int .u32 t736, .int .u32 t737, .bool t738, .bool t739, .bool t7310] ∧
        AppK 33 11 56 [.int .i64 0, .int .i64 0, .int .i64 0, .int .i64 0, .int .u32 0, .int .u32 0, .int .u32 0, .int .u32 0, .bool false, .bool false, .bool false] σ_ lA lN lC [.int .i64 t730, .int .i64 t731, .int .i64 t732, .int .i64 t733, .int .u32 t734, .int .u32 t735, .int .u32 t736, .int .u32 t737, .bool t738, .bool t739, .bool t7310] 1 fun t75A t75N t75C σ_1 =>
        Hop (home_Home_own.T 15) (home_Home_own.T 15) (home_Home_own.j15 K r11 hB hO t75A t75N t75C t60 t59 t60 σ_1))
      (Hop (home_Home_own.T 15) (home_Home_own.T 15) (home_Home_own.j15 K r11 hB hO lA lN lC t60 t59 t60 σ))))
  (Hop (home_Home_own.T 18) (home_Home_own.T 18) (home_Home_own.j18 K hB hO lA lN lC σ))
def home_Home_own.l11 (K : Value → Store → Prop) : Nat → home_Home_own.R11
  | 0, _, _, _, _, _, _, _, _ => False
  | n + 1, hB, hO, lA, lN, lC, t59, t60, σ => home_Home_own.b11 K (home_Home_own.l11 K n) hB hO lA lN lC t59 t60 σ
def home_Home_own.d10 (g : home_Home_own.R10) : List AV → List (List Value) → Store → Prop
  | [.v (.pointer (some ⟨hB, hO, none⟩)), .v (.slice lA lN lC)], [], σ => g hB hO lA lN lC σ
  | _, _, _ => False
def home_Home_own.S10 (K : Value → Store → Prop) (hB hO : Nat) (lA : Option Addr) (lN lC : Nat) (σ : Store) : Prop := SndF Pr F.home_Home_own home_Home_own.H home_Home_own.T K 10 [.v (.pointer (some ⟨hB, hO, none⟩)), .v (.slice lA lN lC)] [] σ
def home_Home_own.j10 (K : Value → Store → Prop) (hB hO : Nat) (lA : Option Addr) (lN lC : Nat) (σ : Store) : Prop :=
  ∃ t59 : Int, cellAt σ hB (hO + 1) = some (.int .i64 t59) ∧
  Hop (home_Home_own.T 11) (home_Home_own.T 11) (∃ n : Nat, home_Home_own.l11 K n hB hO lA lN lC t59 0 σ)
def home_Home_own.d9 (g : home_Home_own.R9) : List AV → List (List Value) → Store → Prop
  | [.v (.pointer (some ⟨hB, hO, none⟩)), .v (.slice lA lN lC), .v (.bool t48)], [], σ => g hB hO lA lN lC t48 σ
  | _, _, _ => False
def home_Home_own.S9 (K : Value → Store → Prop) (hB hO : Nat) (lA : Option Addr) (lN lC : Nat) (t48 : Bool) (σ : Store) : Prop := SndF Pr F.home_Home_own home_Home_own.H home_Home_own.T K 9 [.v (.pointer (some ⟨hB, hO, none⟩)), .v (.slice lA lN lC), .v (.bool t48)] [] σ
def home_Home_own.j9 (K : Value → Store → Prop) (hB hO : Nat) (lA : Option Addr) (lN lC : Nat) (t48 : Bool) (σ : Store) : Prop :=
  cond t48
  (∃ t53 : Int, cellAt σ hB (hO + 6) = some (.int .i64 t53) ∧
    StoreK σ hB (hO + 11) 1 [.int .i64 t53] fun σ_ =>
    Hop (home_Home_own.T 10) (home_Home_own.T 10) (home_Home_own.j10 K hB hO lA lN lC σ_))
  (Hop (home_Home_own.T 10) (home_Home_own.T 10) (home_Home_own.j10 K hB hO lA lN lC σ))
def home_Home_own.d8 (g : home_Home_own.R8) : List AV → List (List Value) → Store → Prop
  | [.v (.pointer (some ⟨hB, hO, none⟩)), .v (.slice lA lN lC)], [], σ => g hB hO lA lN lC σ
  | _, _, _ => False
def home_Home_own.S8 (K : Value → Store → Prop) (hB hO : Nat) (lA : Option Addr) (lN lC : Nat) (σ : Store) : Prop := SndF Pr F.home_Home_own home_Home_own.H home_Home_own.T K 8 [.v (.pointer (some ⟨hB, hO, none⟩)), .v (.slice lA lN lC)] [] σ
def home_Home_own.j8 (K : Value → Store → Prop) (hB hO : Nat) (lA : Option Addr) (lN lC : Nat) (σ : Store) : Prop :=
  ∃ t36 : Int, cellAt σ hB (hO + 6) = some (.int .i64 t36) ∧
  cond (t36 != (-1))
  (∃ t42 : Int, cellAt σ hB (hO + 6) = some (.int .i64 t42) ∧
    ∃ t46 : Int, cellAt σ hB (hO + 9) = some (.int .i64 t46) ∧
    Hop (home_Home_own.T 9) (home_Home_own.T 9) (home_Home_own.j9 K hB hO lA lN lC (t42 != t46) σ))
  (Hop (home_Home_own.T 9) (home_Home_own.T 9) (home_Home_own.j9 K hB hO lA lN lC false σ))
def home_Home_own.d3 (g : home_Home_own.R3) : List AV → List (List Value) → Store → Prop
  | [.v (.pointer (some ⟨hB, hO, none⟩)), .v (.slice lA lN lC), .v (.slice t10A t10N t10C), .v (.int .i64 t11), .v (.int .i64 t12)], [], σ => g hB hO lA lN lC t10A t10N t10C t11 t12 σ
  | _, _, _ => False
def home_Home_own.S3 (K : Value → Store → Prop) (hB hO : Nat) (lA : Option Addr) (lN lC : Nat) (t10A : Option Addr) (t10N t10C : Nat) (t11 t12 : Int) (σ : Store) : Prop := SndF Pr F.home_Home_own home_Home_own.H home_Home_own.T K 3 [.v (.pointer (some ⟨hB, hO, none⟩)), .v (.slice lA lN lC), .v (.slice t10A t10N t10C), .v (.int .i64 t11), .v (.int .i64 t12)] [] σ
def home_Home_own.b3 (K : Value → Store → Prop) (r3 : home_Home_own.R3) (hB hO : Nat) (lA : Option Addr) (lN lC : Nat) (t10A : Option Addr) (t10N t10C : Nat) (t11 t12 : Int) (σ : Store) : Prop :=
  cond (decide (t12 < t11))
  (Req (decide (0 ≤ t12) && decide (t12 < ((t10N : Nat) : Int))) (
      PtrNN t10A fun t15B t15O =>
      ∃ t16 : Bool, cellAt σ t15B (t15O + t12.toNat * 1) = some (.bool t16) ∧
      cond t16
      (∃ t23 : Int, cellAt σ hB (hO + 9) = some (.int .i64 t23) ∧
        Hop (home_Home_own.T 6) (home_Home_own.T 6) (home_Home_own.j6 K r3 hB hO lA lN lC t12 t10A t10N t10C t11 t12 (t12 != t23) σ))
      (Hop (home_Home_own.T 6) (home_Home_own.T 6) (home_Home_own.j6 K r3 hB hO lA lN lC t12 t10A t10N t10C t11 t12 false σ))))
  (Hop (home_Home_own.T 8) (home_Home_own.T 8) (home_Home_own.j8 K hB hO lA lN lC σ))
def home_Home_own.l3 (K : Value → Store → Prop) : Nat → home_Home_own.R3
  | 0, _, _, _, _, _, _, _, _, _, _, _ => False
  | n + 1, hB, hO, lA, lN, lC, t10A, t10N, t10C, t11, t12, σ => home_Home_own.b3 K (home_Home_own.l3 K n) hB hO lA lN lC t10A t10N t10C t11 t12 σ
def home_Home_own.m (K : Value → Store → Prop) (hB hO : Nat) (σ : Store) : Prop :=
  ∃ t10A : Option Addr, ∃ t10N : Nat, ∃ t10C : Nat, cellAt σ hB (hO + 7) = some (.slice t10A t10N t10C) ∧
  Hop (home_Home_own.T 3) (home_Home_own.T 3) (∃ n : Nat, home_Home_own.l3 K n hB hO none 0 0 t10A t10N t10C ((t10N : Nat) : Int) 0 σ)
theorem home_Home_own.d6_ok {K : Value → Store → Prop} {g : home_Home_own.R6} (hg : ∀ hB hO lA lN lC i t10A t10N t10C t11 t12 t25 σ, g hB hO lA lN lC i t10A t10N t10C t11 t12 t25 σ → home_Home_own.S6 K hB hO lA lN lC i t10A t10N t10C t11 t12 t25 σ) (vs : List AV) (bs : List (List Value)) (σ : Store) (h : home_Home_own.d6 g vs bs σ) : SndF Pr F.home_Home_own home_Home_own.H home_Home_own.T K 6 vs bs σ := by
  unfold home_Home_own.d6 at h
  split at h
  · exact hg _ _ _ _ _ _ _ _ _ _ _ _ _ h
  · exact h.elim
theorem home_Home_own.d15_ok {K : Value → Store → Prop} {g : home_Home_own.R15} (hg : ∀ hB hO lA lN lC i t59 t60 σ, g hB hO lA lN lC i t59 t60 σ → home_Home_own.S15 K hB hO lA lN lC i t59 t60 σ) (vs : List AV) (bs : List (List Value)) (σ : Store) (h : home_Home_own.d15 g vs bs σ) : SndF Pr F.home_Home_own home_Home_own.H home_Home_own.T K 15 vs bs σ := by
  unfold home_Home_own.d15 at h
  split at h
  · exact hg _ _ _ _ _ _ _ _ _ h
  · exact h.elim
theorem home_Home_own.d18_ok {K : Value → Store → Prop} {g : home_Home_own.R18} (hg : ∀ hB hO lA lN lC σ, g hB hO lA lN lC σ → home_Home_own.S18 K hB hO lA lN lC σ) (vs : List AV) (bs : List (List Value)) (σ : Store) (h : home_Home_own.d18 g vs bs σ) : SndF Pr F.home_Home_own home_Home_own.H home_Home_own.T K 18 vs bs σ := by
  unfold home_Home_own.d18 at h
  split at h
  · exact hg _ _ _ _ _ _ h
  · exact h.elim
theorem home_Home_own.d11_ok {K : Value → Store → Prop} {g : home_Home_own.R11} (hg : ∀ hB hO lA lN lC t59 t60 σ, g hB hO lA lN lC t59 t60 σ → home_Home_own.S11 K hB hO lA lN lC t59 t60 σ) (vs : List AV) (bs : List (List Value)) (σ : Store) (h : home_Home_own.d11 g vs bs σ) : SndF Pr F.home_Home_own home_Home_own.H home_Home_own.T K 11 vs bs σ := by
  unfold home_Home_own.d11 at h
  split at h
  · exact hg _ _ _ _ _ _ _ _ h
  · exact h.elim
theorem home_Home_own.d10_ok {K : Value → Store → Prop} {g : home_Home_own.R10} (hg : ∀ hB hO lA lN lC σ, g hB hO lA lN lC σ → home_Home_own.S10 K hB hO lA lN lC σ) (vs : List AV) (bs : List (List Value)) (σ : Store) (h : home_Home_own.d10 g vs bs σ) : SndF Pr F.home_Home_own home_Home_own.H home_Home_own.T K 10 vs bs σ := by
  unfold home_Home_own.d10 at h
  split at h
  · exact hg _ _ _ _ _ _ h
  · exact h.elim
theorem home_Home_own.d9_ok {K : Value → Store → Prop} {g : home_Home_own.R9} (hg : ∀ hB hO lA lN lC t48 σ, g hB hO lA lN lC t48 σ → home_Home_own.S9 K hB hO lA lN lC t48 σ) (vs : List AV) (bs : List (List Value)) (σ : Store) (h : home_Home_own.d9 g vs bs σ) : SndF Pr F.home_Home_own home_Home_own.H home_Home_own.T K 9 vs bs σ := by
  unfold home_Home_own.d9 at h
  split at h
  · exact hg _ _ _ _ _ _ _ h
  · exact h.elim
theorem home_Home_own.d8_ok {K : Value → Store → Prop} {g : home_Home_own.R8} (hg : ∀ hB hO lA lN lC σ, g hB hO lA lN lC σ → home_Home_own.S8 K hB hO lA lN lC σ) (vs : List AV) (bs : List (List Value)) (σ : Store) (h : home_Home_own.d8 g vs bs σ) : SndF Pr F.home_Home_own home_Home_own.H home_Home_own.T K 8 vs bs σ := by
  unfold home_Home_own.d8 at h
  split at h
  · exact hg _ _ _ _ _ _ h
  · exact h.elim
theorem home_Home_own.d3_ok {K : Value → Store → Prop} {g : home_Home_own.R3} (hg : ∀ hB hO lA lN lC t10A t10N t10C t11 t12 σ, g hB hO lA lN lC t10A t10N t10C t11 t12 σ → home_Home_own.S3 K hB hO lA lN lC t10A t10N t10C t11 t12 σ) (vs : List AV) (bs : List (List Value)) (σ : Store) (h : home_Home_own.d3 g vs bs σ) : SndF Pr F.home_Home_own home_Home_own.H home_Home_own.T K 3 vs bs σ := by
  unfold home_Home_own.d3 at h
  split at h
  · exact hg _ _ _ _ _ _ _ _ _ _ _ h
  · exact h.elim
noncomputable def home_Home_own.h6 (K : Value → Store → Prop) (r3 : home_Home_own.R3) : Hand := hsel [(3, home_Home_own.d3 r3)]
theorem home_Home_own.j6_eq (K : Value → Store → Prop) (r3 : home_Home_own.R3) (hB hO : Nat) (lA : Option Addr) (lN lC : Nat) (i : Int) (t10A : Option Addr) (t10N t10C : Nat) (t11 t12 : Int) (t25 : Bool) (σ : Store) : (seg Pr home_Home_own.H F.home_Home_own home_Home_own.T (home_Home_own.h6 K r3) K (home_Home_own.T 6) (Ev.cutE home_Home_own.H 6 [.v (.pointer (some ⟨hB, hO, none⟩)), .v (.slice lA lN lC), .v (.int .i64 i), .v (.slice t10A t10N t10C), .v (.int .i64 t11), .v (.int .i64 t12), .v (.bool t25)] []) σ) = home_Home_own.j6 K r3 hB hO lA lN lC i t10A t10N t10C t11 t12 t25 σ := by kernel_rfl
theorem home_Home_own.j6_ok (K : Value → Store → Prop) (r3 : home_Home_own.R3) (h3 : ∀ hB hO lA lN lC t10A t10N t10C t11 t12 σ, r3 hB hO lA lN lC t10A t10N t10C t11 t12 σ → home_Home_own.S3 K hB hO lA lN lC t10A t10N t10C t11 t12 σ) (hB hO : Nat) (lA : Option Addr) (lN lC : Nat) (i : Int) (t10A : Option Addr) (t10N t10C : Nat) (t11 t12 : Int) (t25 : Bool) (σ : Store) (h : home_Home_own.j6 K r3 hB hO lA lN lC i t10A t10N t10C t11 t12 t25 σ) : home_Home_own.S6 K hB hO lA lN lC i t10A t10N t10C t11 t12 t25 σ := by
  rw [← home_Home_own.j6_eq] at h
  exact seg_snd Pr_mixed (hsel_sound fun x hx => by
    simp only [List.mem_cons, List.not_mem_nil, or_false] at hx
    subst hx
    exact home_Home_own.d3_ok h3) h
noncomputable def home_Home_own.h15 (K : Value → Store → Prop) (r11 : home_Home_own.R11) : Hand := hsel [(11, home_Home_own.d11 r11)]
theorem home_Home_own.j15_eq (K : Value → Store → Prop) (r11 : home_Home_own.R11) (hB hO : Nat) (lA : Option Addr) (lN lC : Nat) (i t59 t60 : Int) (σ : Store) : (seg Pr home_Home_own.H F.home_Home_own home_Home_own.T (home_Home_own.h15 K r11) K (home_Home_own.T 15) (Ev.cutE home_Home_own.H 15 [.v (.pointer (some ⟨hB, hO, none⟩)), .v (.slice lA lN lC), .v (.int .i64 i), .v (.int .i64 t59), .v (.int .i64 t60)] []) σ) = home_Home_own.j15 K r11 hB hO lA lN lC i t59 t60 σ := by kernel_rfl
theorem home_Home_own.j15_ok (K : Value → Store → Prop) (r11 : home_Home_own.R11) (h11 : ∀ hB hO lA lN lC t59 t60 σ, r11 hB hO lA lN lC t59 t60 σ → home_Home_own.S11 K hB hO lA lN lC t59 t60 σ) (hB hO : Nat) (lA : Option Addr) (lN lC : Nat) (i t59 t60 : Int) (σ : Store) (h : home_Home_own.j15 K r11 hB hO lA lN lC i t59 t60 σ) : home_Home_own.S15 K hB hO lA lN lC i t59 t60 σ := by
  rw [← home_Home_own.j15_eq] at h
  exact seg_snd Pr_mixed (hsel_sound fun x hx => by
    simp only [List.mem_cons, List.not_mem_nil, or_false] at hx
    subst hx
    exact home_Home_own.d11_ok h11) h
noncomputable def home_Home_own.h18 (K : Value → Store → Prop) : Hand := hsel []
theorem home_Home_own.j18_eq (K : Value → Store → Prop) (hB hO : Nat) (lA : Option Addr) (lN lC : Nat) (σ : Store) : (seg Pr home_Home_own.H F.home_Home_own home_Home_own.T (home_Home_own.h18 K ) K (home_Home_own.T 18) (Ev.cutE home_Home_own.H 18 [.v (.pointer (some ⟨hB, hO, none⟩)), .v (.slice lA lN lC)] []) σ) = home_Home_own.j18 K hB hO lA lN lC σ := by kernel_rfl
theorem home_Home_own.j18_ok (K : Value → Store → Prop) (hB hO : Nat) (lA : Option Addr) (lN lC : Nat) (σ : Store) (h : home_Home_own.j18 K hB hO lA lN lC σ) : home_Home_own.S18 K hB hO lA lN lC σ := by
  rw [← home_Home_own.j18_eq] at h
  exact seg_snd Pr_mixed (hsel_sound fun x hx => by
    cases hx) h
noncomputable def home_Home_own.h11 (K : Value → Store → Prop) (r11 : home_Home_own.R11) : Hand := hsel [(15, home_Home_own.d15 (home_Home_own.j15 K r11)), (18, home_Home_own.d18 (home_Home_own.j18 K )), (11, home_Home_own.d11 r11)]
theorem home_Home_own.b11_eq (K : Value → Store → Prop) (r11 : home_Home_own.R11) (hB hO : Nat) (lA : Option Addr) (lN lC : Nat) (t59 t60 : Int) (σ : Store) : (seg Pr home_Home_own.H F.home_Home_own home_Home_own.T (home_Home_own.h11 K r11) K (home_Home_own.T 11) (Ev.cutE home_Home_own.H 11 [.v (.pointer (some ⟨hB, hO, none⟩)), .v (.slice lA lN lC), .v (.int .i64 t59), .v (.int .i64 t60)] []) σ) = home_Home_own.b11 K r11 hB hO lA lN lC t59 t60 σ := by kernel_rfl
theorem home_Home_own.b11_ok (K : Value → Store → Prop) (r11 : home_Home_own.R11) (h11 : ∀ hB hO lA lN lC t59 t60 σ, r11 hB hO lA lN lC t59 t60 σ → home_Home_own.S11 K hB hO lA lN lC t59 t60 σ) (hB hO : Nat) (lA : Option Addr) (lN lC : Nat) (t59 t60 : Int) (σ : Store) (h : home_Home_own.b11 K r11 hB hO lA lN lC t59 t60 σ) : home_Home_own.S11 K hB hO lA lN lC t59 t60 σ := by
  rw [← home_Home_own.b11_eq] at h
  exact seg_snd Pr_mixed (hsel_sound fun x hx => by
    simp only [List.mem_cons, List.not_mem_nil, or_false] at hx
    rcases hx with rfl | rfl | rfl
    · exact home_Home_own.d15_ok fun _ _ _ _ _ _ _ _ _ h => home_Home_own.j15_ok K r11 h11 _ _ _ _ _ _ _ _ _ h
    · exact home_Home_own.d18_ok fun _ _ _ _ _ _ h => home_Home_own.j18_ok K _ _ _ _ _ _ h
    · exact home_Home_own.d11_ok h11) h
theorem home_Home_own.l11_ok (K : Value → Store → Prop) : ∀ (n : Nat) (hB hO : Nat) (lA : Option Addr) (lN lC : Nat) (t59 t60 : Int) (σ : Store), home_Home_own.l11 K n hB hO lA lN lC t59 t60 σ → home_Home_own.S11 K hB hO lA lN lC t59 t60 σ
  | 0, _, _, _, _, _, _, _, _, h => h.elim
  | n + 1, _, _, _, _, _, _, _, _, h => home_Home_own.b11_ok K (home_Home_own.l11 K n) (home_Home_own.l11_ok K n) _ _ _ _ _ _ _ _ h
noncomputable def home_Home_own.h10 (K : Value → Store → Prop) : Hand := hsel [(11, home_Home_own.d11 fun hB hO lA lN lC t59 t60 σ => ∃ n : Nat, home_Home_own.l11 K n hB hO lA lN lC t59 t60 σ)]
theorem home_Home_own.j10_eq (K : Value → Store → Prop) (hB hO : Nat) (lA : Option Addr) (lN lC : Nat) (σ : Store) : (seg Pr home_Home_own.H F.home_Home_own home_Home_own.T (home_Home_own.h10 K ) K (home_Home_own.T 10) (Ev.cutE home_Home_own.H 10 [.v (.pointer (some ⟨hB, hO, none⟩)), .v (.slice lA lN lC)] []) σ) = home_Home_own.j10 K hB hO lA lN lC σ := by kernel_rfl
theorem home_Home_own.j10_ok (K : Value → Store → Prop) (hB hO : Nat) (lA : Option Addr) (lN lC : Nat) (σ : Store) (h : home_Home_own.j10 K hB hO lA lN lC σ) : home_Home_own.S10 K hB hO lA lN lC σ := by
  rw [← home_Home_own.j10_eq] at h
  exact seg_snd Pr_mixed (hsel_sound fun x hx => by
    simp only [List.mem_cons, List.not_mem_nil, or_false] at hx
    subst hx
    exact home_Home_own.d11_ok fun _ _ _ _ _ _ _ _ ⟨n, h⟩ => home_Home_own.l11_ok K n _ _ _ _ _ _ _ _ h) h
noncomputable def home_Home_own.h9 (K : Value → Store → Prop) : Hand := hsel [(10, home_Home_own.d10 (home_Home_own.j10 K ))]
theorem home_Home_own.j9_eq (K : Value → Store → Prop) (hB hO : Nat) (lA : Option Addr) (lN lC : Nat) (t48 : Bool) (σ : Store) : (seg Pr home_Home_own.H F.home_Home_own home_Home_own.T (home_Home_own.h9 K ) K (home_Home_own.T 9) (Ev.cutE home_Home_own.H 9 [.v (.pointer (some ⟨hB, hO, none⟩)), .v (.slice lA lN lC), .v (.bool t48)] []) σ) = home_Home_own.j9 K hB hO lA lN lC t48 σ := by kernel_rfl
theorem home_Home_own.j9_ok (K : Value → Store → Prop) (hB hO : Nat) (lA : Option Addr) (lN lC : Nat) (t48 : Bool) (σ : Store) (h : home_Home_own.j9 K hB hO lA lN lC t48 σ) : home_Home_own.S9 K hB hO lA lN lC t48 σ := by
  rw [← home_Home_own.j9_eq] at h
  exact seg_snd Pr_mixed (hsel_sound fun x hx => by
    simp only [List.mem_cons, List.not_mem_nil, or_false] at hx
    subst hx
    exact home_Home_own.d10_ok fun _ _ _ _ _ _ h => home_Home_own.j10_ok K _ _ _ _ _ _ h) h
noncomputable def home_Home_own.h8 (K : Value → Store → Prop) : Hand := hsel [(9, home_Home_own.d9 (home_Home_own.j9 K ))]
theorem home_Home_own.j8_eq (K : Value → Store → Prop) (hB hO : Nat) (lA : Option Addr) (lN lC : Nat) (σ : Store) : (seg Pr home_Home_own.H F.home_Home_own home_Home_own.T (home_Home_own.h8 K ) K (home_Home_own.T 8) (Ev.cutE home_Home_own.H 8 [.v (.pointer (some ⟨hB, hO, none⟩)), .v (.slice lA lN lC)] []) σ) = home_Home_own.j8 K hB hO lA lN lC σ := by kernel_rfl
theorem home_Home_own.j8_ok (K : Value → Store → Prop) (hB hO : Nat) (lA : Option Addr) (lN lC : Nat) (σ : Store) (h : home_Home_own.j8 K hB hO lA lN lC σ) : home_Home_own.S8 K hB hO lA lN lC σ := by
  rw [← home_Home_own.j8_eq] at h
  exact seg_snd Pr_mixed (hsel_sound fun x hx => by
    simp only [List.mem_cons, List.not_mem_nil, or_false] at hx
    subst hx
    exact home_Home_own.d9_ok fun _ _ _ _ _ _ _ h => home_Home_own.j9_ok K _ _ _ _ _ _ _ h) h
noncomputable def home_Home_own.h3 (K : Value → Store → Prop) (r3 : home_Home_own.R3) : Hand := hsel [(6, home_Home_own.d6 (home_Home_own.j6 K r3)), (8, home_Home_own.d8 (home_Home_own.j8 K )), (3, home_Home_own.d3 r3)]
theorem home_Home_own.b3_eq (K : Value → Store → Prop) (r3 : home_Home_own.R3) (hB hO : Nat) (lA : Option Addr) (lN lC : Nat) (t10A : Option Addr) (t10N t10C : Nat) (t11 t12 : Int) (σ : Store) : (seg Pr home_Home_own.H F.home_Home_own home_Home_own.T (home_Home_own.h3 K r3) K (home_Home_own.T 3) (Ev.cutE home_Home_own.H 3 [.v (.pointer (some ⟨hB, hO, none⟩)), .v (.slice lA lN lC), .v (.slice t10A t10N t10C), .v (.int .i64 t11), .v (.int .i64 t12)] []) σ) = home_Home_own.b3 K r3 hB hO lA lN lC t10A t10N t10C t11 t12 σ := by kernel_rfl
theorem home_Home_own.b3_ok (K : Value → Store → Prop) (r3 : home_Home_own.R3) (h3 : ∀ hB hO lA lN lC t10A t10N t10C t11 t12 σ, r3 hB hO lA lN lC t10A t10N t10C t11 t12 σ → home_Home_own.S3 K hB hO lA lN lC t10A t10N t10C t11 t12 σ) (hB hO : Nat) (lA : Option Addr) (lN lC : Nat) (t10A : Option Addr) (t10N t10C : Nat) (t11 t12 : Int) (σ : Store) (h : home_Home_own.b3 K r3 hB hO lA lN lC t10A t10N t10C t11 t12 σ) : home_Home_own.S3 K hB hO lA lN lC t10A t10N t10C t11 t12 σ := by
  rw [← home_Home_own.b3_eq] at h
  exact seg_snd Pr_mixed (hsel_sound fun x hx => by
    simp only [List.mem_cons, List.not_mem_nil, or_false] at hx
    rcases hx with rfl | rfl | rfl
    · exact home_Home_own.d6_ok fun _ _ _ _ _ _ _ _ _ _ _ _ _ h => home_Home_own.j6_ok K r3 h3 _ _ _ _ _ _ _ _ _ _ _ _ _ h
    · exact home_Home_own.d8_ok fun _ _ _ _ _ _ h => home_Home_own.j8_ok K _ _ _ _ _ _ h
    · exact home_Home_own.d3_ok h3) h
theorem home_Home_own.l3_ok (K : Value → Store → Prop) : ∀ (n : Nat) (hB hO : Nat) (lA : Option Addr) (lN lC : Nat) (t10A : Option Addr) (t10N t10C : Nat) (t11 t12 : Int) (σ : Store), home_Home_own.l3 K n hB hO lA lN lC t10A t10N t10C t11 t12 σ → home_Home_own.S3 K hB hO lA lN lC t10A t10N t10C t11 t12 σ
  | 0, _, _, _, _, _, _, _, _, _, _, _, h => h.elim
  | n + 1, _, _, _, _, _, _, _, _, _, _, _, h => home_Home_own.b3_ok K (home_Home_own.l3 K n) (home_Home_own.l3_ok K n) _ _ _ _ _ _ _ _ _ _ _ h
noncomputable def home_Home_own.h (K : Value → Store → Prop) : Hand := hsel [(3, home_Home_own.d3 fun hB hO lA lN lC t10A t10N t10C t11 t12 σ => ∃ n : Nat, home_Home_own.l3 K n hB hO lA lN lC t10A t10N t10C t11 t12 σ)]
theorem home_Home_own.m_eq (K : Value → Store → Prop) (hB hO : Nat) (σ : Store) : (segF Pr home_Home_own.H F.home_Home_own home_Home_own.T (home_Home_own.h K) K [.pointer (some ⟨hB, hO, none⟩)] σ) = home_Home_own.m K hB hO σ := by kernel_rfl
theorem home_Home_own.ok {K : Value → Store → Prop} {hB hO : Nat} {σ : Store} (h : home_Home_own.m K hB hO σ) : Spec Pr F.home_Home_own [.pointer (some ⟨hB, hO, none⟩)] σ K := by
  rw [← home_Home_own.m_eq] at h
  exact segF_spec Pr_mixed (hsel_sound fun x hx => by
    simp only [List.mem_cons, List.not_mem_nil, or_false] at hx
    subst hx
    exact home_Home_own.d3_ok fun _ _ _ _ _ _ _ _ _ _ _ ⟨n, h⟩ => home_Home_own.l3_ok K n _ _ _ _ _ _ _ _ _ _ _ h) h

/-! ### (*corral/home.Home).Take -/
def home_Home_Take.H : Hints := { esc := [68], cuts := [(6, [0, 10, 11], [(3, 33)]), (14, [0], [(3, 33)]), (15, [0], [(3, 33)]), (25, [0], [])] }
noncomputable def home_Home_Take.T : Nat → List Item := stk Pr F.home_Home_Take [(6, [1, 1, 0, 1, 0, 1]), (14, [1, 1, 0, 1, 0, 1, 1, 1, 0, 0, 1, 0, 1]), (15, [1, 1, 0, 1, 0, 1, 1, 1, 0, 1]), (25, [1, 1, 1])]
abbrev home_Home_Take.R15 : Type := Nat → Nat → Int → Int → Int → Int → Int → Int → Int → Int → Bool → Bool → Bool → Store → Prop
abbrev home_Home_Take.R14 : Type := Nat → Nat → Int → Int → Int → Int → Int → Int → Int → Int → Bool → Bool → Bool → Store → Prop
abbrev home_Home_Take.R25 : Type := Nat → Nat → Store → Prop
abbrev home_Home_Take.R6 : Type := Nat → Nat → Int → Bool → Int → Int → Int → Int → Int → Int → Int → Int → Bool → Bool → Bool → Store → Prop
def home_Home_Take.d15 (g : home_Home_Take.R15) : List AV → List (List Value) → Store → Prop
  | [.v (.pointer (some ⟨hB, hO, none⟩))], [[.int .i64 m0, .int .i64 m1, .int .i64 m2, .int .i64 m3, .int .u32 m4, .int .u32 m5, .int .u32 m6, .int .u32 m7, .bool m8, .bool m9, .bool m10]], σ => g hB hO m0 m1 m2 m3 m4 m5 m6 m7 m8 m9 m10 σ
  | _, _, _ => False
def home_Home_Take.S15 (K : Value → Store → Prop) (hB hO : Nat) (m0 m1 m2 m3 m4 m5 m6 m7 : Int) (m8 m9 m10 : Bool) (σ : Store) : Prop := SndF Pr F.home_Home_Take home_Home_Take.H home_Home_Take.T K 15 [.v (.pointer (some ⟨hB, hO, none⟩))] [[.int .i64 m0, .int .i64 m1, .int .i64 m2, .int .i64 m3, .int .u32 m4, .int .u32 m5, .int .u32 m6, .int .u32 m7, .bool m8, .bool m9, .bool m10]] σ
def home_Home_Take.j15 (K : Value → Store → Prop) (hB hO : Nat) (m0 m1 m2 m3 m4 m5 m6 m7 : Int) (m8 m9 m10 : Bool) (σ : Store) : Prop :=
  ∃ t60A : Option Addr, ∃ t60N : Nat, ∃ t60C : Nat, cellAt σ hB (hO + 7) = some (.slice t60A t60N t60C) ∧
  Req (decide (0 ≤ m2) && decide (m2 < ((t60N : Nat) : Int))) (
    PtrNN t60A fun t63B t63O =>
    StoreK σ t63B (t63O + m2.toNat * 1) 1 [.bool false] fun σ_ =>
    Spec Pr F.home_Home_to [.pointer (some ⟨hB, hO, none⟩), .int .i64 m2, .int .i64 9] σ_ fun v σ_1 => ∃ t670 : Int, ∃ t671 : Int, ∃ t672 : Int, ∃ t673 : Int, ∃ t674 : Int, ∃ t675 : Int, ∃ t676 : Int, ∃ t677 : Int, ∃ t678 : Bool, ∃ t679 : Bool, ∃ t6710 : Bool, v = .agg #[.int .i64 t670, .int .i64 t671, .int .i64 t672, .int .i64 t673, .int .u32 t674, .int .u32 t675, .int .u32 t676, .int .u32 t677, .bool t678, .bool t679, .bool t6710] ∧
    New σ_1 ⟨33, [.int .i64 t670, .int .i64 t671, .int .i64 t672, .int .i64 t673, .int .u32 t674, .int .u32 t675, .int .u32 t676, .int .u32 t677, .bool t678, .bool t679, .bool t6710], (0, 0)⟩ fun t68B σ_2 =>
    K (.slice (some ⟨t68B, 0, none⟩) 1 1) σ_2)
def home_Home_Take.d14 (g : home_Home_Take.R14) : List AV → List (List Value) → Store → Prop
  | [.v (.pointer (some ⟨hB, hO, none⟩))], [[.int .i64 m0, .int .i64 m1, .int .i64 m2, .int .i64 m3, .int .u32 m4, .int .u32 m5, .int .u32 m6, .int .u32 m7, .bool m8, .bool m9, .bool m10]], σ => g hB hO m0 m1 m2 m3 m4 m5 m6 m7 m8 m9 m10 σ
  | _, _, _ => False
def home_Home_Take.S14 (K : Value → Store → Prop) (hB hO : Nat) (m0 m1 m2 m3 m4 m5 m6 m7 : Int) (m8 m9 m10 : Bool) (σ : Store) : Prop := SndF Pr F.home_Home_Take home_Home_Take.H home_Home_Take.T K 14 [.v (.pointer (some ⟨hB, hO, none⟩))] [[.int .i64 m0, .int .i64 m1, .int .i64 m2, .int .i64 m3, .int .u32 m4, .int .u32 m5, .int .u32 m6, .int .u32 m7, .bool m8, .bool m9, .bool m10]] σ
def home_Home_Take.j14 (K : Value → Store → Prop) (hB hO : Nat) (m0 m1 m2 m3 m4 m5 m6 m7 : Int) (m8 m9 m10 : Bool) (σ : Store) : Prop :=
  StoreK σ hB (hO + 6) 1 [.int .i64 (-1)] fun σ_ =>
  Hop (home_Home_Take.T 15) (home_Home_Take.T 15) (home_Home_Take.j15 K hB hO m0 m1 m2 m3 m4 m5 m6 m7 m8 m9 m10 σ_)
def home_Home_Take.d25 (g : home_Home_Take.R25) : List AV → List (List Value) → Store → Prop
  | [.v (.pointer (some ⟨hB, hO, none⟩))], [], σ => g hB hO σ
  | _, _, _ => False
def home_Home_Take.S25 (K : Value → Store → Prop) (hB hO : Nat) (σ : Store) : Prop := SndF Pr F.home_Home_Take home_Home_Take.H home_Home_Take.T K 25 [.v (.pointer (some ⟨hB, hO, none⟩))] [] σ
def home_Home_Take.j25 (K : Value → Store → Prop) (hB hO : Nat) (σ : Store) : Prop :=
  StoreK σ hB (hO + 8) 1 [.bool false] fun σ_ =>
  K (.slice none 0 0) σ_
def home_Home_Take.d6 (g : home_Home_Take.R6) : List AV → List (List Value) → Store → Prop
  | [.v (.pointer (some ⟨hB, hO, none⟩)), .v (.int .i64 t10), .v (.bool t11)], [[.int .i64 m0, .int .i64 m1, .int .i64 m2, .int .i64 m3, .int .u32 m4, .int .u32 m5, .int .u32 m6, .int .u32 m7, .bool m8, .bool m9, .bool m10]], σ => g hB hO t10 t11 m0 m1 m2 m3 m4 m5 m6 m7 m8 m9 m10 σ
  | _, _, _ => False
def home_Home_Take.S6 (K : Value → Store → Prop) (hB hO : Nat) (t10 : Int) (t11 : Bool) (m0 m1 m2 m3 m4 m5 m6 m7 : Int) (m8 m9 m10 : Bool) (σ : Store) : Prop := SndF Pr F.home_Home_Take home_Home_Take.H home_Home_Take.T K 6 [.v (.pointer (some ⟨hB, hO, none⟩)), .v (.int .i64 t10), .v (.bool t11)] [[.int .i64 m0, .int .i64 m1, .int .i64 m2, .int .i64 m3, .int .u32 m4, .int .u32 m5, .int .u32 m6, .int .u32 m7, .bool m8, .bool m9, .bool m10]] σ
def home_Home_Take.j6 (K : Value → Store → Prop) (hB hO : Nat) (t10 : Int) (t11 : Bool) (m0 m1 m2 m3 m4 m5 m6 m7 : Int) (m8 m9 m10 : Bool) (σ : Store) : Prop :=
  cond t11
  (StoreK σ hB (hO + 8) 1 [.bool true] fun σ_ =>
    StoreK σ_ hB (hO + 9) 1 [.int .i64 m2] fun σ_1 =>
    StoreK σ_1 hB (hO + 10) 1 [.int .i64 m0] fun σ_2 =>
    StoreK σ_2 hB (hO + 13) 11 [.int .i64 0, .int .i64 0, .int .i64 0, .int .i64 0, .int .u32 0, .int .u32 0, .int .u32 0, .int .u32 0, .bool false, .bool false, .bool false] fun σ_3 =>
    cond (m0 == 1)
    (Spec Pr F.home_Home_share [.pointer (some ⟨hB, hO, none⟩)] σ_3 fun v σ_4 => ∃ t35A : Option Addr, ∃ t35N : Nat, ∃ t35C : Nat, v = .slice t35A t35N t35C ∧
      K (.slice t35A t35N t35C) σ_4)
    (Spec Pr F.home_Home_own [.pointer (some ⟨hB, hO, none⟩)] σ_3 fun v1 σ_5 => ∃ t37A : Option Addr, ∃ t37N : Nat, ∃ t37C : Nat, v1 = .slice t37A t37N t37C ∧
      K (.slice t37A t37N t37C) σ_5))
  (cond (t10 == 3)
    (∃ t45 : Int, cellAt σ hB (hO + 6) = some (.int .i64 t45) ∧
      cond (m2 == t45)
      (cond m9
        (StoreK σ hB (hO + 2) 4 [.int .u32 m4, .int .u32 m5, .int .u32 m6, .int .u32 m7] fun σ_6 =>
          Hop (home_Home_Take.T 14) (home_Home_Take.T 14) (home_Home_Take.j14 K hB hO m0 m1 m2 m3 m4 m5 m6 m7 m8 m9 m10 σ_6))
        (Hop (home_Home_Take.T 14) (home_Home_Take.T 14) (home_Home_Take.j14 K hB hO m0 m1 m2 m3 m4 m5 m6 m7 m8 m9 m10 σ)))
      (Hop (home_Home_Take.T 15) (home_Home_Take.T 15) (home_Home_Take.j15 K hB hO m0 m1 m2 m3 m4 m5 m6 m7 m8 m9 m10 σ)))
    (cond (t10 == 10)
      (∃ t74A : Option Addr, ∃ t74N : Nat, ∃ t74C : Nat, cellAt σ hB (hO + 12) = some (.slice t74A t74N t74C) ∧
        Req (decide (0 ≤ m2) && decide (m2 < ((t74N : Nat) : Int))) (
          PtrNN t74A fun t77B t77O =>
          StoreK σ t77B (t77O + m2.toNat * 1) 1 [.bool false] fun σ_7 =>
          Spec Pr F.home_Home_owned [.pointer (some ⟨hB, hO, none⟩)] σ_7 fun v2 σ_8 => ∃ t79A : Option Addr, ∃ t79N : Nat, ∃ t79C : Nat, v2 = .slice t79A t79N t79C ∧
          K (.slice t79A t79N t79C) σ_8))
      (cond (t10 == 11)
        (StoreK σ hB (hO + 11) 1 [.int .i64 (-1)] fun σ_9 =>
          StoreK σ_9 hB (hO + 13) 11 [.int .i64 m0, .int .i64 m1, .int .i64 m2, .int .i64 m3, .int .u32 m4, .int .u32 m5, .int .u32 m6, .int .u32 m7, .bool m8, .bool m9, .bool m10] fun σ_10 =>
          ∃ t92 : Int, cellAt σ_10 hB (hO + 10) = some (.int .i64 t92) ∧
          cond (t92 == 1)
          (Spec Pr F.home_Home_shared [.pointer (some ⟨hB, hO, none⟩), .agg #[.int .i64 m0, .int .i64 m1, .int .i64 m2, .int .i64 m3, .int .u32 m4, .int .u32 m5, .int .u32 m6, .int .u32 m7, .bool m8, .bool m9, .bool m10]] σ_10 fun v3 σ_11 => ∃ t96A : Option Addr, ∃ t96N : Nat, ∃ t96C : Nat, v3 = .slice t96A t96N t96C ∧
            K (.slice t96A t96N t96C) σ_11)
          (Spec Pr F.home_Home_owned [.pointer (some ⟨hB, hO, none⟩)] σ_10 fun v4 σ_12 => ∃ t98A : Option Addr, ∃ t98N : Nat, ∃ t98C : Nat, v4 = .slice t98A t98N t98C ∧
            K (.slice t98A t98N t98C) σ_12))
        (Hop (home_Home_Take.T 25) (home_Home_Take.T 25) (home_Home_Take.j25 K hB hO σ)))))
def home_Home_Take.m (K : Value → Store → Prop) (hB hO : Nat) (m0 m1 m2 m3 m4 m5 m6 m7 : Int) (m8 m9 m10 : Bool) (σ : Store) : Prop :=
  Spec Pr F.home_Home_Takes [.pointer (some ⟨hB, hO, none⟩), .agg #[.int .i64 m0, .int .i64 m1, .int .i64 m2, .int .i64 m3, .int .u32 m4, .int .u32 m5, .int .u32 m6, .int .u32 m7, .bool m8, .bool m9, .bool m10]] σ fun v σ_ => ∃ t7 : Bool, v = .bool t7 ∧
  cond (!t7)
  (K (.slice none 0 0) σ_)
  (cond (m0 == 1)
    (Hop (home_Home_Take.T 6) (home_Home_Take.T 6) (home_Home_Take.j6 K hB hO m0 true m0 m1 m2 m3 m4 m5 m6 m7 m8 m9 m10 σ_))
    (Hop (home_Home_Take.T 6) (home_Home_Take.T 6) (home_Home_Take.j6 K hB hO m0 (m0 == 2) m0 m1 m2 m3 m4 m5 m6 m7 m8 m9 m10 σ_)))
theorem home_Home_Take.d15_ok {K : Value → Store → Prop} {g : home_Home_Take.R15} (hg : ∀ hB hO m0 m1 m2 m3 m4 m5 m6 m7 m8 m9 m10 σ, g hB hO m0 m1 m2 m3 m4 m5 m6 m7 m8 m9 m10 σ → home_Home_Take.S15 K hB hO m0 m1 m2 m3 m4 m5 m6 m7 m8 m9 m10 σ) (vs : List AV) (bs : List (List Value)) (σ : Store) (h : home_Home_Take.d15 g vs bs σ) : SndF Pr F.home_Home_Take home_Home_Take.H home_Home_Take.T K 15 vs bs σ := by
  unfold home_Home_Take.d15 at h
  split at h
  · exact hg _ _ _ _ _ _ _ _ _ _ _ _ _ _ h
  · exact h.elim
theorem home_Home_Take.d14_ok {K : Value → Store → Prop} {g : home_Home_Take.R14} (hg : ∀ hB hO m0 m1 m2 m3 m4 m5 m6 m7 m8 m9 m10 σ, g hB hO m0 m1 m2 m3 m4 m5 m6 m7 m8 m9 m10 σ → home_Home_Take.S14 K hB hO m0 m1 m2 m3 m4 m5 m6 m7 m8 m9 m10 σ) (vs : List AV) (bs : List (List Value)) (σ : Store) (h : home_Home_Take.d14 g vs bs σ) : SndF Pr F.home_Home_Take home_Home_Take.H home_Home_Take.T K 14 vs bs σ := by
  unfold home_Home_Take.d14 at h
  split at h
  · exact hg _ _ _ _ _ _ _ _ _ _ _ _ _ _ h
  · exact h.elim
theorem home_Home_Take.d25_ok {K : Value → Store → Prop} {g : home_Home_Take.R25} (hg : ∀ hB hO σ, g hB hO σ → home_Home_Take.S25 K hB hO σ) (vs : List AV) (bs : List (List Value)) (σ : Store) (h : home_Home_Take.d25 g vs bs σ) : SndF Pr F.home_Home_Take home_Home_Take.H home_Home_Take.T K 25 vs bs σ := by
  unfold home_Home_Take.d25 at h
  split at h
  · exact hg _ _ _ h
  · exact h.elim
theorem home_Home_Take.d6_ok {K : Value → Store → Prop} {g : home_Home_Take.R6} (hg : ∀ hB hO t10 t11 m0 m1 m2 m3 m4 m5 m6 m7 m8 m9 m10 σ, g hB hO t10 t11 m0 m1 m2 m3 m4 m5 m6 m7 m8 m9 m10 σ → home_Home_Take.S6 K hB hO t10 t11 m0 m1 m2 m3 m4 m5 m6 m7 m8 m9 m10 σ) (vs : List AV) (bs : List (List Value)) (σ : Store) (h : home_Home_Take.d6 g vs bs σ) : SndF Pr F.home_Home_Take home_Home_Take.H home_Home_Take.T K 6 vs bs σ := by
  unfold home_Home_Take.d6 at h
  split at h
  · exact hg _ _ _ _ _ _ _ _ _ _ _ _ _ _ _ _ h
  · exact h.elim
noncomputable def home_Home_Take.h15 (K : Value → Store → Prop) : Hand := hsel []
theorem home_Home_Take.j15_eq (K : Value → Store → Prop) (hB hO : Nat) (m0 m1 m2 m3 m4 m5 m6 m7 : Int) (m8 m9 m10 : Bool) (σ : Store) : (seg Pr home_Home_Take.H F.home_Home_Take home_Home_Take.T (home_Home_Take.h15 K ) K (home_Home_Take.T 15) (Ev.cutE home_Home_Take.H 15 [.v (.pointer (some ⟨hB, hO, none⟩))] [[.int .i64 m0, .int .i64 m1, .int .i64 m2, .int .i64 m3, .int .u32 m4, .int .u32 m5, .int .u32 m6, .int .u32 m7, .bool m8, .bool m9, .bool m10]]) σ) = home_Home_Take.j15 K hB hO m0 m1 m2 m3 m4 m5 m6 m7 m8 m9 m10 σ := by kernel_rfl
theorem home_Home_Take.j15_ok (K : Value → Store → Prop) (hB hO : Nat) (m0 m1 m2 m3 m4 m5 m6 m7 : Int) (m8 m9 m10 : Bool) (σ : Store) (h : home_Home_Take.j15 K hB hO m0 m1 m2 m3 m4 m5 m6 m7 m8 m9 m10 σ) : home_Home_Take.S15 K hB hO m0 m1 m2 m3 m4 m5 m6 m7 m8 m9 m10 σ := by
  rw [← home_Home_Take.j15_eq] at h
  exact seg_snd Pr_mixed (hsel_sound fun x hx => by
    cases hx) h
noncomputable def home_Home_Take.h14 (K : Value → Store → Prop) : Hand := hsel [(15, home_Home_Take.d15 (home_Home_Take.j15 K ))]
theorem home_Home_Take.j14_eq (K : Value → Store → Prop) (hB hO : Nat) (m0 m1 m2 m3 m4 m5 m6 m7 : Int) (m8 m9 m10 : Bool) (σ : Store) : (seg Pr home_Home_Take.H F.home_Home_Take home_Home_Take.T (home_Home_Take.h14 K ) K (home_Home_Take.T 14) (Ev.cutE home_Home_Take.H 14 [.v (.pointer (some ⟨hB, hO, none⟩))] [[.int .i64 m0, .int .i64 m1, .int .i64 m2, .int .i64 m3, .int .u32 m4, .int .u32 m5, .int .u32 m6, .int .u32 m7, .bool m8, .bool m9, .bool m10]]) σ) = home_Home_Take.j14 K hB hO m0 m1 m2 m3 m4 m5 m6 m7 m8 m9 m10 σ := by kernel_rfl
theorem home_Home_Take.j14_ok (K : Value → Store → Prop) (hB hO : Nat) (m0 m1 m2 m3 m4 m5 m6 m7 : Int) (m8 m9 m10 : Bool) (σ : Store) (h : home_Home_Take.j14 K hB hO m0 m1 m2 m3 m4 m5 m6 m7 m8 m9 m10 σ) : home_Home_Take.S14 K hB hO m0 m1 m2 m3 m4 m5 m6 m7 m8 m9 m10 σ := by
  rw [← home_Home_Take.j14_eq] at h
  exact seg_snd Pr_mixed (hsel_sound fun x hx => by
    simp only [List.mem_cons, List.not_mem_nil, or_false] at hx
    subst hx
    exact home_Home_Take.d15_ok fun _ _ _ _ _ _ _ _ _ _ _ _ _ _ h => home_Home_Take.j15_ok K _ _ _ _ _ _ _ _ _ _ _ _ _ _ h) h
noncomputable def home_Home_Take.h25 (K : Value → Store → Prop) : Hand := hsel []
theorem home_Home_Take.j25_eq (K : Value → Store → Prop) (hB hO : Nat) (σ : Store) : (seg Pr home_Home_Take.H F.home_Home_Take home_Home_Take.T (home_Home_Take.h25 K ) K (home_Home_Take.T 25) (Ev.cutE home_Home_Take.H 25 [.v (.pointer (some ⟨hB, hO, none⟩))] []) σ) = home_Home_Take.j25 K hB hO σ := by kernel_rfl
theorem home_Home_Take.j25_ok (K : Value → Store → Prop) (hB hO : Nat) (σ : Store) (h : home_Home_Take.j25 K hB hO σ) : home_Home_Take.S25 K hB hO σ := by
  rw [← home_Home_Take.j25_eq] at h
  exact seg_snd Pr_mixed (hsel_sound fun x hx => by
    cases hx) h
noncomputable def home_Home_Take.h6 (K : Value → Store → Prop) : Hand := hsel [(14, home_Home_Take.d14 (home_Home_Take.j14 K )), (15, home_Home_Take.d15 (home_Home_Take.j15 K )), (25, home_Home_Take.d25 (home_Home_Take.j25 K ))]
theorem home_Home_Take.j6_eq (K : Value → Store → Prop) (hB hO : Nat) (t10 : Int) (t11 : Bool) (m0 m1 m2 m3 m4 m5 m6 m7 : Int) (m8 m9 m10 : Bool) (σ : Store) : (seg Pr home_Home_Take.H F.home_Home_Take home_Home_Take.T (home_Home_Take.h6 K ) K (home_Home_Take.T 6) (Ev.cutE home_Home_Take.H 6 [.v (.pointer (some ⟨hB, hO, none⟩)), .v (.int .i64 t10), .v (.bool t11)] [[.int .i64 m0, .int .i64 m1, .int .i64 m2, .int .i64 m3, .int .u32 m4, .int .u32 m5, .int .u32 m6, .int .u32 m7, .bool m8, .bool m9, .bool m10]]) σ) = home_Home_Take.j6 K hB hO t10 t11 m0 m1 m2 m3 m4 m5 m6 m7 m8 m9 m10 σ := by kernel_rfl
theorem home_Home_Take.j6_ok (K : Value → Store → Prop) (hB hO : Nat) (t10 : Int) (t11 : Bool) (m0 m1 m2 m3 m4 m5 m6 m7 : Int) (m8 m9 m10 : Bool) (σ : Store) (h : home_Home_Take.j6 K hB hO t10 t11 m0 m1 m2 m3 m4 m5 m6 m7 m8 m9 m10 σ) : home_Home_Take.S6 K hB hO t10 t11 m0 m1 m2 m3 m4 m5 m6 m7 m8 m9 m10 σ := by
  rw [← home_Home_Take.j6_eq] at h
  exact seg_snd Pr_mixed (hsel_sound fun x hx => by
    simp only [List.mem_cons, List.not_mem_nil, or_false] at hx
    rcases hx with rfl | rfl | rfl
    · exact home_Home_Take.d14_ok fun _ _ _ _ _ _ _ _ _ _ _ _ _ _ h => home_Home_Take.j14_ok K _ _ _ _ _ _ _ _ _ _ _ _ _ _ h
    · exact home_Home_Take.d15_ok fun _ _ _ _ _ _ _ _ _ _ _ _ _ _ h => home_Home_Take.j15_ok K _ _ _ _ _ _ _ _ _ _ _ _ _ _ h
    · exact home_Home_Take.d25_ok fun _ _ _ h => home_Home_Take.j25_ok K _ _ _ h) h
noncomputable def home_Home_Take.h (K : Value → Store → Prop) : Hand := hsel [(6, home_Home_Take.d6 (home_Home_Take.j6 K ))]
theorem home_Home_Take.m_eq (K : Value → Store → Prop) (hB hO : Nat) (m0 m1 m2 m3 m4 m5 m6 m7 : Int) (m8 m9 m10 : Bool) (σ : Store) : (segF Pr home_Home_Take.H F.home_Home_Take home_Home_Take.T (home_Home_Take.h K) K [.pointer (some ⟨hB, hO, none⟩), .agg #[.int .i64 m0, .int .i64 m1, .int .i64 m2, .int .i64 m3, .int .u32 m4, .int .u32 m5, .int .u32 m6, .int .u32 m7, .bool m8, .bool m9, .bool m10]] σ) = home_Home_Take.m K hB hO m0 m1 m2 m3 m4 m5 m6 m7 m8 m9 m10 σ := by kernel_rfl
theorem home_Home_Take.ok {K : Value → Store → Prop} {hB hO : Nat} {m0 m1 m2 m3 m4 m5 m6 m7 : Int} {m8 m9 m10 : Bool} {σ : Store} (h : home_Home_Take.m K hB hO m0 m1 m2 m3 m4 m5 m6 m7 m8 m9 m10 σ) : Spec Pr F.home_Home_Take [.pointer (some ⟨hB, hO, none⟩), .agg #[.int .i64 m0, .int .i64 m1, .int .i64 m2, .int .i64 m3, .int .u32 m4, .int .u32 m5, .int .u32 m6, .int .u32 m7, .bool m8, .bool m9, .bool m10]] σ K := by
  rw [← home_Home_Take.m_eq] at h
  exact segF_spec Pr_mixed (hsel_sound fun x hx => by
    simp only [List.mem_cons, List.not_mem_nil, or_false] at hx
    subst hx
    exact home_Home_Take.d6_ok fun _ _ _ _ _ _ _ _ _ _ _ _ _ _ _ _ h => home_Home_Take.j6_ok K _ _ _ _ _ _ _ _ _ _ _ _ _ _ _ _ h) h

/-! ### slices.Clone[[]bool,bool] -/
def slices_Clone.H : Hints := { esc := [5], cuts := [] }
noncomputable def slices_Clone.T : Nat → List Item := stk Pr F.slices_Clone []
def slices_Clone.m (K : Value → Store → Prop) (sA : Option Addr) (sN sC : Nat) (σ : Store) : Prop :=
  cond sA.isNone
  (K (.slice none 0 0) σ)
  (New σ ⟨4, [], (0, 0)⟩ fun t5B σ_ =>
    ∃ ys : List Value, srcCells σ_ sA (sN * 1) = some ys ∧
    AppK 4 1 1 [.bool false] σ_ (some ⟨t5B, 0, none⟩) 0 0 ys sN fun t7A t7N t7C σ_1 =>
    K (.slice t7A t7N t7C) σ_1)
noncomputable def slices_Clone.h (K : Value → Store → Prop) : Hand := hsel []
theorem slices_Clone.m_eq (K : Value → Store → Prop) (sA : Option Addr) (sN sC : Nat) (σ : Store) : (segF Pr slices_Clone.H F.slices_Clone slices_Clone.T (slices_Clone.h K) K [.slice sA sN sC] σ) = slices_Clone.m K sA sN sC σ := by kernel_rfl
theorem slices_Clone.ok {K : Value → Store → Prop} {sA : Option Addr} {sN sC : Nat} {σ : Store} (h : slices_Clone.m K sA sN sC σ) : Spec Pr F.slices_Clone [.slice sA sN sC] σ K := by
  rw [← slices_Clone.m_eq] at h
  exact segF_spec Pr_mixed (hsel_sound fun x hx => by
    cases hx) h

/-! ### slices.Contains[[]bool,bool] -/
def slices_Contains.H : Hints := { esc := [], cuts := [] }
noncomputable def slices_Contains.T : Nat → List Item := stk Pr F.slices_Contains []
def slices_Contains.m (K : Value → Store → Prop) (sA : Option Addr) (sN sC : Nat) (v : Bool) (σ : Store) : Prop :=
  Spec Pr F.slices_Index [.slice sA sN sC, .bool v] σ fun v1 σ_ => ∃ t7 : Int, v1 = .int .i64 t7 ∧
  K (.bool (decide (t7 ≥ 0))) σ_
noncomputable def slices_Contains.h (K : Value → Store → Prop) : Hand := hsel []
theorem slices_Contains.m_eq (K : Value → Store → Prop) (sA : Option Addr) (sN sC : Nat) (v : Bool) (σ : Store) : (segF Pr slices_Contains.H F.slices_Contains slices_Contains.T (slices_Contains.h K) K [.slice sA sN sC, .bool v] σ) = slices_Contains.m K sA sN sC v σ := by kernel_rfl
theorem slices_Contains.ok {K : Value → Store → Prop} {sA : Option Addr} {sN sC : Nat} {v : Bool} {σ : Store} (h : slices_Contains.m K sA sN sC v σ) : Spec Pr F.slices_Contains [.slice sA sN sC, .bool v] σ K := by
  rw [← slices_Contains.m_eq] at h
  exact segF_spec Pr_mixed (hsel_sound fun x hx => by
    cases hx) h

/-! ### slices.Index[[]bool,bool] -/
def slices_Index.H : Hints := { esc := [], cuts := [(2, [0, 1, 7, 8], []), (7, [], [])] }
noncomputable def slices_Index.T : Nat → List Item := stk Pr F.slices_Index [(2, [1, 0, 1, 0, 0]), (7, [1, 1])]
abbrev slices_Index.R7 : Type := Store → Prop
abbrev slices_Index.R2 : Type := Option Addr → Nat → Nat → Bool → Int → Int → Store → Prop
def slices_Index.d7 (g : slices_Index.R7) : List AV → List (List Value) → Store → Prop
  | [], [], σ => g σ
  | _, _, _ => False
def slices_Index.S7 (K : Value → Store → Prop) (σ : Store) : Prop := SndF Pr F.slices_Index slices_Index.H slices_Index.T K 7 [] [] σ
def slices_Index.j7 (K : Value → Store → Prop) (σ : Store) : Prop :=
  K (.int .i64 (-1)) σ
def slices_Index.d2 (g : slices_Index.R2) : List AV → List (List Value) → Store → Prop
  | [.v (.slice sA sN sC), .v (.bool v), .v (.int .i64 t7), .v (.int .i64 t8)], [], σ => g sA sN sC v t7 t8 σ
  | _, _, _ => False
def slices_Index.S2 (K : Value → Store → Prop) (sA : Option Addr) (sN sC : Nat) (v : Bool) (t7 t8 : Int) (σ : Store) : Prop := SndF Pr F.slices_Index slices_Index.H slices_Index.T K 2 [.v (.slice sA sN sC), .v (.bool v), .v (.int .i64 t7), .v (.int .i64 t8)] [] σ
def slices_Index.b2 (K : Value → Store → Prop) (r2 : slices_Index.R2) (sA : Option Addr) (sN sC : Nat) (v : Bool) (t7 t8 : Int) (σ : Store) : Prop :=
  cond (decide (t8 < t7))
  (Req (decide (0 ≤ t8) && decide (t8 < ((sN : Nat) : Int))) (
      PtrNN sA fun t14B t14O =>
      ∃ t15 : Bool, cellAt σ t14B (t14O + t8.toNat * 1) = some (.bool t15) ∧
      cond (v == t15)
      (K (.int .i64 t8) σ)
      (Hop (slices_Index.T 2) (slices_Index.T 2) (r2 sA sN sC v t7 (IntKind.wrap .i64 (t8 + 1)) σ))))
  (Hop (slices_Index.T 7) (slices_Index.T 7) (slices_Index.j7 K σ))
def slices_Index.l2 (K : Value → Store → Prop) : Nat → slices_Index.R2
  | 0, _, _, _, _, _, _, _ => False
  | n + 1, sA, sN, sC, v, t7, t8, σ => slices_Index.b2 K (slices_Index.l2 K n) sA sN sC v t7 t8 σ
def slices_Index.m (K : Value → Store → Prop) (sA : Option Addr) (sN sC : Nat) (v : Bool) (σ : Store) : Prop :=
  Hop (slices_Index.T 2) (slices_Index.T 2) (∃ n : Nat, slices_Index.l2 K n sA sN sC v ((sN : Nat) : Int) 0 σ)
theorem slices_Index.d7_ok {K : Value → Store → Prop} {g : slices_Index.R7} (hg : ∀ σ, g σ → slices_Index.S7 K σ) (vs : List AV) (bs : List (List Value)) (σ : Store) (h : slices_Index.d7 g vs bs σ) : SndF Pr F.slices_Index slices_Index.H slices_Index.T K 7 vs bs σ := by
  unfold slices_Index.d7 at h
  split at h
  · exact hg _ h
  · exact h.elim
theorem slices_Index.d2_ok {K : Value → Store → Prop} {g : slices_Index.R2} (hg : ∀ sA sN sC v t7 t8 σ, g sA sN sC v t7 t8 σ → slices_Index.S2 K sA sN sC v t7 t8 σ) (vs : List AV) (bs : List (List Value)) (σ : Store) (h : slices_Index.d2 g vs bs σ) : SndF Pr F.slices_Index slices_Index.H slices_Index.T K 2 vs bs σ := by
  unfold slices_Index.d2 at h
  split at h
  · exact hg _ _ _ _ _ _ _ h
  · exact h.elim
noncomputable def slices_Index.h7 (K : Value → Store → Prop) : Hand := hsel []
theorem slices_Index.j7_eq (K : Value → Store → Prop) (σ : Store) : (seg Pr slices_Index.H F.slices_Index slices_Index.T (slices_Index.h7 K ) K (slices_Index.T 7) (Ev.cutE slices_Index.H 7 [] []) σ) = slices_Index.j7 K σ := by kernel_rfl
theorem slices_Index.j7_ok (K : Value → Store → Prop) (σ : Store) (h : slices_Index.j7 K σ) : slices_Index.S7 K σ := by
  rw [← slices_Index.j7_eq] at h
  exact seg_snd Pr_mixed (hsel_sound fun x hx => by
    cases hx) h
noncomputable def slices_Index.h2 (K : Value → Store → Prop) (r2 : slices_Index.R2) : Hand := hsel [(7, slices_Index.d7 (slices_Index.j7 K )), (2, slices_Index.d2 r2)]
theorem slices_Index.b2_eq (K : Value → Store → Prop) (r2 : slices_Index.R2) (sA : Option Addr) (sN sC : Nat) (v : Bool) (t7 t8 : Int) (σ : Store) : (seg Pr slices_Index.H F.slices_Index slices_Index.T (slices_Index.h2 K r2) K (slices_Index.T 2) (Ev.cutE slices_Index.H 2 [.v (.slice sA sN sC), .v (.bool v), .v (.int .i64 t7), .v (.int .i64 t8)] []) σ) = slices_Index.b2 K r2 sA sN sC v t7 t8 σ := by kernel_rfl
theorem slices_Index.b2_ok (K : Value → Store → Prop) (r2 : slices_Index.R2) (h2 : ∀ sA sN sC v t7 t8 σ, r2 sA sN sC v t7 t8 σ → slices_Index.S2 K sA sN sC v t7 t8 σ) (sA : Option Addr) (sN sC : Nat) (v : Bool) (t7 t8 : Int) (σ : Store) (h : slices_Index.b2 K r2 sA sN sC v t7 t8 σ) : slices_Index.S2 K sA sN sC v t7 t8 σ := by
  rw [← slices_Index.b2_eq] at h
  exact seg_snd Pr_mixed (hsel_sound fun x hx => by
    simp only [List.mem_cons, List.not_mem_nil, or_false] at hx
    rcases hx with rfl | rfl
    · exact slices_Index.d7_ok fun _ h => slices_Index.j7_ok K _ h
    · exact slices_Index.d2_ok h2) h
theorem slices_Index.l2_ok (K : Value → Store → Prop) : ∀ (n : Nat) (sA : Option Addr) (sN sC : Nat) (v : Bool) (t7 t8 : Int) (σ : Store), slices_Index.l2 K n sA sN sC v t7 t8 σ → slices_Index.S2 K sA sN sC v t7 t8 σ
  | 0, _, _, _, _, _, _, _, h => h.elim
  | n + 1, _, _, _, _, _, _, _, h => slices_Index.b2_ok K (slices_Index.l2 K n) (slices_Index.l2_ok K n) _ _ _ _ _ _ _ h
noncomputable def slices_Index.h (K : Value → Store → Prop) : Hand := hsel [(2, slices_Index.d2 fun sA sN sC v t7 t8 σ => ∃ n : Nat, slices_Index.l2 K n sA sN sC v t7 t8 σ)]
theorem slices_Index.m_eq (K : Value → Store → Prop) (sA : Option Addr) (sN sC : Nat) (v : Bool) (σ : Store) : (segF Pr slices_Index.H F.slices_Index slices_Index.T (slices_Index.h K) K [.slice sA sN sC, .bool v] σ) = slices_Index.m K sA sN sC v σ := by kernel_rfl
theorem slices_Index.ok {K : Value → Store → Prop} {sA : Option Addr} {sN sC : Nat} {v : Bool} {σ : Store} (h : slices_Index.m K sA sN sC v σ) : Spec Pr F.slices_Index [.slice sA sN sC, .bool v] σ K := by
  rw [← slices_Index.m_eq] at h
  exact segF_spec Pr_mixed (hsel_sound fun x hx => by
    simp only [List.mem_cons, List.not_mem_nil, or_false] at hx
    subst hx
    exact slices_Index.d2_ok fun _ _ _ _ _ _ _ ⟨n, h⟩ => slices_Index.l2_ok K n _ _ _ _ _ _ _ h) h

/-! ### corral/corralref.SameLine -/
def corralref_SameLine.H : Hints := { esc := [], cuts := [] }
noncomputable def corralref_SameLine.T : Nat → List Item := stk Pr F.corralref_SameLine []
def corralref_SameLine.m (K : Value → Store → Prop) (a0 a1 a2 a3 b0 b1 b2 b3 : Int) (σ : Store) : Prop :=
  cond (a0 == b0)
  (cond (a1 == b1)
    (cond (a2 == b2)
      (K (.bool (a3 == b3)) σ)
      (K (.bool false) σ))
    (K (.bool false) σ))
  (K (.bool false) σ)
noncomputable def corralref_SameLine.h (K : Value → Store → Prop) : Hand := hsel []
theorem corralref_SameLine.m_eq (K : Value → Store → Prop) (a0 a1 a2 a3 b0 b1 b2 b3 : Int) (σ : Store) : (segF Pr corralref_SameLine.H F.corralref_SameLine corralref_SameLine.T (corralref_SameLine.h K) K [.agg #[.int .u32 a0, .int .u32 a1, .int .u32 a2, .int .u32 a3], .agg #[.int .u32 b0, .int .u32 b1, .int .u32 b2, .int .u32 b3]] σ) = corralref_SameLine.m K a0 a1 a2 a3 b0 b1 b2 b3 σ := by kernel_rfl
theorem corralref_SameLine.ok {K : Value → Store → Prop} {a0 a1 a2 a3 b0 b1 b2 b3 : Int} {σ : Store} (h : corralref_SameLine.m K a0 a1 a2 a3 b0 b1 b2 b3 σ) : Spec Pr F.corralref_SameLine [.agg #[.int .u32 a0, .int .u32 a1, .int .u32 a2, .int .u32 a3], .agg #[.int .u32 b0, .int .u32 b1, .int .u32 b2, .int .u32 b3]] σ K := by
  rw [← corralref_SameLine.m_eq] at h
  exact segF_spec Pr_mixed (hsel_sound fun x hx => by
    cases hx) h

/-! ### corral/corralworld.Number -/
def corralworld_Number.H : Hints := { esc := [], cuts := [] }
noncomputable def corralworld_Number.T : Nat → List Item := stk Pr F.corralworld_Number []
def corralworld_Number.m (K : Value → Store → Prop) (n_ below : Int) (σ : Store) : Prop :=
  Req (!decide (below = 0)) (
    Req (!decide (below = 0)) (
      K (.int .i64 (Int.tmod (IntKind.wrap .i64 ((Int.tmod n_ below) + below)) below)) σ))
noncomputable def corralworld_Number.h (K : Value → Store → Prop) : Hand := hsel []
theorem corralworld_Number.m_eq (K : Value → Store → Prop) (n_ below : Int) (σ : Store) : (segF Pr corralworld_Number.H F.corralworld_Number corralworld_Number.T (corralworld_Number.h K) K [.int .i64 n_, .int .i64 below] σ) = corralworld_Number.m K n_ below σ := by kernel_rfl
theorem corralworld_Number.ok {K : Value → Store → Prop} {n_ below : Int} {σ : Store} (h : corralworld_Number.m K n_ below σ) : Spec Pr F.corralworld_Number [.int .i64 n_, .int .i64 below] σ K := by
  rw [← corralworld_Number.m_eq] at h
  exact segF_spec Pr_mixed (hsel_sound fun x hx => by
    cases hx) h

/-! ### corral/corralref18.NewHome -/
def corralref18_NewHome.H : Hints := { esc := [11], cuts := [] }
noncomputable def corralref18_NewHome.T : Nat → List Item := stk Pr F.corralref18_NewHome []
def corralref18_NewHome.m (K : Value → Store → Prop) (line harts data0 data1 data2 data3 : Int) (σ : Store) : Prop :=
  New σ ⟨44, [.int .i64 line, .int .i64 harts, .int .u32 data0, .int .u32 data1, .int .u32 data2, .int .u32 data3, .int .i64 (-1), .slice none 0 0, .bool false, .int .i64 0, .int .i64 0, .slice none 0 0, .int .i64 (-1), .int .i64 0, .int .i64 0, .int .i64 0, .int .i64 0, .int .u32 0, .int .u32 0, .int .u32 0, .int .u32 0, .bool false, .bool false, .bool false, .bool false], (0, 0)⟩ fun t11B σ_ =>
  K (.pointer (some ⟨t11B, 0, none⟩)) σ_
noncomputable def corralref18_NewHome.h (K : Value → Store → Prop) : Hand := hsel []
theorem corralref18_NewHome.m_eq (K : Value → Store → Prop) (line harts data0 data1 data2 data3 : Int) (σ : Store) : (segF Pr corralref18_NewHome.H F.corralref18_NewHome corralref18_NewHome.T (corralref18_NewHome.h K) K [.int .i64 line, .int .i64 harts, .agg #[.int .u32 data0, .int .u32 data1, .int .u32 data2, .int .u32 data3]] σ) = corralref18_NewHome.m K line harts data0 data1 data2 data3 σ := by kernel_rfl
theorem corralref18_NewHome.ok {K : Value → Store → Prop} {line harts data0 data1 data2 data3 : Int} {σ : Store} (h : corralref18_NewHome.m K line harts data0 data1 data2 data3 σ) : Spec Pr F.corralref18_NewHome [.int .i64 line, .int .i64 harts, .agg #[.int .u32 data0, .int .u32 data1, .int .u32 data2, .int .u32 data3]] σ K := by
  rw [← corralref18_NewHome.m_eq] at h
  exact segF_spec Pr_mixed (hsel_sound fun x hx => by
    cases hx) h

/-! ### (*corral/corralref18.Home).Takes -/
def corralref18_Home_Takes.H : Hints := { esc := [], cuts := [(3, [0], [(3, 33)]), (7, [0, 32, 33], [(3, 33)])] }
noncomputable def corralref18_Home_Takes.T : Nat → List Item := stk Pr F.corralref18_Home_Takes [(3, [1, 1]), (7, [1, 1, 0, 1, 0, 1])]
abbrev corralref18_Home_Takes.R7 : Type := Nat → Nat → Int → Bool → Int → Int → Int → Int → Int → Int → Int → Int → Bool → Bool → Bool → Store → Prop
abbrev corralref18_Home_Takes.R3 : Type := Nat → Nat → Int → Int → Int → Int → Int → Int → Int → Int → Bool → Bool → Bool → Store → Prop
def corralref18_Home_Takes.d7 (g : corralref18_Home_Takes.R7) : List AV → List (List Value) → Store → Prop
  | [.v (.pointer (some ⟨hB, hO, none⟩)), .v (.int .i64 t32), .v (.bool t33)], [[.int .i64 m0, .int .i64 m1, .int .i64 m2, .int .i64 m3, .int .u32 m4, .int .u32 m5, .int .u32 m6, .int .u32 m7, .bool m8, .bool m9, .bool m10]], σ => g hB hO t32 t33 m0 m1 m2 m3 m4 m5 m6 m7 m8 m9 m10 σ
  | _, _, _ => False
def corralref18_Home_Takes.S7 (K : Value → Store → Prop) (hB hO : Nat) (t32 : Int) (t33 : Bool) (m0 m1 m2 m3 m4 m5 m6 m7 : Int) (m8 m9 m10 : Bool) (σ : Store) : Prop := SndF Pr F.corralref18_Home_Takes corralref18_Home_Takes.H corralref18_Home_Takes.T K 7 [.v (.pointer (some ⟨hB, hO, none⟩)), .v (.int .i64 t32), .v (.bool t33)] [[.int .i64 m0, .int .i64 m1, .int .i64 m2, .int .i64 m3, .int .u32 m4, .int .u32 m5, .int .u32 m6, .int .u32 m7, .bool m8, .bool m9, .bool m10]] σ
def corralref18_Home_Takes.j7 (K : Value → Store → Prop) (hB hO : Nat) (t32 : Int) (t33 : Bool) (m0 m1 m2 m3 m4 m5 m6 m7 : Int) (m8 m9 m10 : Bool) (σ : Store) : Prop :=
  cond t33
  (∃ t40 : Bool, cellAt σ hB (hO + 8) = some (.bool t40) ∧
    K (.bool (!t40)) σ)
  (cond (t32 == 10)
    (∃ t47 : Bool, cellAt σ hB (hO + 8) = some (.bool t47) ∧
      cond t47
      (∃ t52A : Option Addr, ∃ t52N : Nat, ∃ t52C : Nat, cellAt σ hB (hO + 11) = some (.slice t52A t52N t52C) ∧
        Spec Pr F.corralref_Among [.slice t52A t52N t52C, .int .i64 m2] σ fun v σ_ => ∃ t55 : Bool, v = .bool t55 ∧
        K (.bool t55) σ_)
      (K (.bool false) σ))
    (cond (t32 == 11)
      (∃ t62 : Bool, cellAt σ hB (hO + 8) = some (.bool t62) ∧
        cond t62
        (∃ t67 : Int, cellAt σ hB (hO + 12) = some (.int .i64 t67) ∧
          K (.bool (t67 == m2)) σ)
        (K (.bool false) σ))
      (cond (t32 == 12)
        (∃ t77 : Bool, cellAt σ hB (hO + 8) = some (.bool t77) ∧
          cond t77
          (∃ t82A : Option Addr, ∃ t82N : Nat, ∃ t82C : Nat, cellAt σ hB (hO + 11) = some (.slice t82A t82N t82C) ∧
            cond (((t82N : Nat) : Int) == 0)
            (∃ t90 : Int, cellAt σ hB (hO + 12) = some (.int .i64 t90) ∧
              cond (decide (t90 < 0))
              (∃ t97 : Int, cellAt σ hB (hO + 10) = some (.int .i64 t97) ∧
                K (.bool (t97 == m2)) σ)
              (K (.bool false) σ))
            (K (.bool false) σ))
          (K (.bool false) σ))
        (K (.bool false) σ))))
def corralref18_Home_Takes.d3 (g : corralref18_Home_Takes.R3) : List AV → List (List Value) → Store → Prop
  | [.v (.pointer (some ⟨hB, hO, none⟩))], [[.int .i64 m0, .int .i64 m1, .int .i64 m2, .int .i64 m3, .int .u32 m4, .int .u32 m5, .int .u32 m6, .int .u32 m7, .bool m8, .bool m9, .bool m10]], σ => g hB hO m0 m1 m2 m3 m4 m5 m6 m7 m8 m9 m10 σ
  | _, _, _ => False
def corralref18_Home_Takes.S3 (K : Value → Store → Prop) (hB hO : Nat) (m0 m1 m2 m3 m4 m5 m6 m7 : Int) (m8 m9 m10 : Bool) (σ : Store) : Prop := SndF Pr F.corralref18_Home_Takes corralref18_Home_Takes.H corralref18_Home_Takes.T K 3 [.v (.pointer (some ⟨hB, hO, none⟩))] [[.int .i64 m0, .int .i64 m1, .int .i64 m2, .int .i64 m3, .int .u32 m4, .int .u32 m5, .int .u32 m6, .int .u32 m7, .bool m8, .bool m9, .bool m10]] σ
def corralref18_Home_Takes.j3 (K : Value → Store → Prop) (hB hO : Nat) (m0 m1 m2 m3 m4 m5 m6 m7 : Int) (m8 m9 m10 : Bool) (σ : Store) : Prop :=
  cond (m0 == 1)
  (Hop (corralref18_Home_Takes.T 7) (corralref18_Home_Takes.T 7) (corralref18_Home_Takes.j7 K hB hO m0 true m0 m1 m2 m3 m4 m5 m6 m7 m8 m9 m10 σ))
  (cond (m0 == 2)
    (Hop (corralref18_Home_Takes.T 7) (corralref18_Home_Takes.T 7) (corralref18_Home_Takes.j7 K hB hO m0 true m0 m1 m2 m3 m4 m5 m6 m7 m8 m9 m10 σ))
    (Hop (corralref18_Home_Takes.T 7) (corralref18_Home_Takes.T 7) (corralref18_Home_Takes.j7 K hB hO m0 (m0 == 3) m0 m1 m2 m3 m4 m5 m6 m7 m8 m9 m10 σ)))
def corralref18_Home_Takes.m (K : Value → Store → Prop) (hB hO : Nat) (m0 m1 m2 m3 m4 m5 m6 m7 : Int) (m8 m9 m10 : Bool) (σ : Store) : Prop :=
  ∃ t10 : Int, cellAt σ hB hO = some (.int .i64 t10) ∧
  cond (m1 != t10)
  (K (.bool false) σ)
  (cond (m3 != (-1))
    (K (.bool false) σ)
    (cond (decide (m2 < 0))
      (K (.bool false) σ)
      (∃ t28 : Int, cellAt σ hB (hO + 1) = some (.int .i64 t28) ∧
        cond (decide (m2 ≥ t28))
        (K (.bool false) σ)
        (Hop (corralref18_Home_Takes.T 3) (corralref18_Home_Takes.T 3) (corralref18_Home_Takes.j3 K hB hO m0 m1 m2 m3 m4 m5 m6 m7 m8 m9 m10 σ)))))
theorem corralref18_Home_Takes.d7_ok {K : Value → Store → Prop} {g : corralref18_Home_Takes.R7} (hg : ∀ hB hO t32 t33 m0 m1 m2 m3 m4 m5 m6 m7 m8 m9 m10 σ, g hB hO t32 t33 m0 m1 m2 m3 m4 m5 m6 m7 m8 m9 m10 σ → corralref18_Home_Takes.S7 K hB hO t32 t33 m0 m1 m2 m3 m4 m5 m6 m7 m8 m9 m10 σ) (vs : List AV) (bs : List (List Value)) (σ : Store) (h : corralref18_Home_Takes.d7 g vs bs σ) : SndF Pr F.corralref18_Home_Takes corralref18_Home_Takes.H corralref18_Home_Takes.T K 7 vs bs σ := by
  unfold corralref18_Home_Takes.d7 at h
  split at h
  · exact hg _ _ _ _ _ _ _ _ _ _ _ _ _ _ _ _ h
  · exact h.elim
theorem corralref18_Home_Takes.d3_ok {K : Value → Store → Prop} {g : corralref18_Home_Takes.R3} (hg : ∀ hB hO m0 m1 m2 m3 m4 m5 m6 m7 m8 m9 m10 σ, g hB hO m0 m1 m2 m3 m4 m5 m6 m7 m8 m9 m10 σ → corralref18_Home_Takes.S3 K hB hO m0 m1 m2 m3 m4 m5 m6 m7 m8 m9 m10 σ) (vs : List AV) (bs : List (List Value)) (σ : Store) (h : corralref18_Home_Takes.d3 g vs bs σ) : SndF Pr F.corralref18_Home_Takes corralref18_Home_Takes.H corralref18_Home_Takes.T K 3 vs bs σ := by
  unfold corralref18_Home_Takes.d3 at h
  split at h
  · exact hg _ _ _ _ _ _ _ _ _ _ _ _ _ _ h
  · exact h.elim
noncomputable def corralref18_Home_Takes.h7 (K : Value → Store → Prop) : Hand := hsel []
theorem corralref18_Home_Takes.j7_eq (K : Value → Store → Prop) (hB hO : Nat) (t32 : Int) (t33 : Bool) (m0 m1 m2 m3 m4 m5 m6 m7 : Int) (m8 m9 m10 : Bool) (σ : Store) : (seg Pr corralref18_Home_Takes.H F.corralref18_Home_Takes corralref18_Home_Takes.T (corralref18_Home_Takes.h7 K ) K (corralref18_Home_Takes.T 7) (Ev.cutE corralref18_Home_Takes.H 7 [.v (.pointer (some ⟨hB, hO, none⟩)), .v (.int .i64 t32), .v (.bool t33)] [[.int .i64 m0, .int .i64 m1, .int .i64 m2, .int .i64 m3, .int .u32 m4, .int .u32 m5, .int .u32 m6, .int .u32 m7, .bool m8, .bool m9, .bool m10]]) σ) = corralref18_Home_Takes.j7 K hB hO t32 t33 m0 m1 m2 m3 m4 m5 m6 m7 m8 m9 m10 σ := by kernel_rfl
theorem corralref18_Home_Takes.j7_ok (K : Value → Store → Prop) (hB hO : Nat) (t32 : Int) (t33 : Bool) (m0 m1 m2 m3 m4 m5 m6 m7 : Int) (m8 m9 m10 : Bool) (σ : Store) (h : corralref18_Home_Takes.j7 K hB hO t32 t33 m0 m1 m2 m3 m4 m5 m6 m7 m8 m9 m10 σ) : corralref18_Home_Takes.S7 K hB hO t32 t33 m0 m1 m2 m3 m4 m5 m6 m7 m8 m9 m10 σ := by
  rw [← corralref18_Home_Takes.j7_eq] at h
  exact seg_snd Pr_mixed (hsel_sound fun x hx => by
    cases hx) h
noncomputable def corralref18_Home_Takes.h3 (K : Value → Store → Prop) : Hand := hsel [(7, corralref18_Home_Takes.d7 (corralref18_Home_Takes.j7 K ))]
theorem corralref18_Home_Takes.j3_eq (K : Value → Store → Prop) (hB hO : Nat) (m0 m1 m2 m3 m4 m5 m6 m7 : Int) (m8 m9 m10 : Bool) (σ : Store) : (seg Pr corralref18_Home_Takes.H F.corralref18_Home_Takes corralref18_Home_Takes.T (corralref18_Home_Takes.h3 K ) K (corralref18_Home_Takes.T 3) (Ev.cutE corralref18_Home_Takes.H 3 [.v (.pointer (some ⟨hB, hO, none⟩))] [[.int .i64 m0, .int .i64 m1, .int .i64 m2, .int .i64 m3, .int .u32 m4, .int .u32 m5, .int .u32 m6, .int .u32 m7, .bool m8, .bool m9, .bool m10]]) σ) = corralref18_Home_Takes.j3 K hB hO m0 m1 m2 m3 m4 m5 m6 m7 m8 m9 m10 σ := by kernel_rfl
theorem corralref18_Home_Takes.j3_ok (K : Value → Store → Prop) (hB hO : Nat) (m0 m1 m2 m3 m4 m5 m6 m7 : Int) (m8 m9 m10 : Bool) (σ : Store) (h : corralref18_Home_Takes.j3 K hB hO m0 m1 m2 m3 m4 m5 m6 m7 m8 m9 m10 σ) : corralref18_Home_Takes.S3 K hB hO m0 m1 m2 m3 m4 m5 m6 m7 m8 m9 m10 σ := by
  rw [← corralref18_Home_Takes.j3_eq] at h
  exact seg_snd Pr_mixed (hsel_sound fun x hx => by
    simp only [List.mem_cons, List.not_mem_nil, or_false] at hx
    subst hx
    exact corralref18_Home_Takes.d7_ok fun _ _ _ _ _ _ _ _ _ _ _ _ _ _ _ _ h => corralref18_Home_Takes.j7_ok K _ _ _ _ _ _ _ _ _ _ _ _ _ _ _ _ h) h
noncomputable def corralref18_Home_Takes.h (K : Value → Store → Prop) : Hand := hsel [(3, corralref18_Home_Takes.d3 (corralref18_Home_Takes.j3 K ))]
theorem corralref18_Home_Takes.m_eq (K : Value → Store → Prop) (hB hO : Nat) (m0 m1 m2 m3 m4 m5 m6 m7 : Int) (m8 m9 m10 : Bool) (σ : Store) : (segF Pr corralref18_Home_Takes.H F.corralref18_Home_Takes corralref18_Home_Takes.T (corralref18_Home_Takes.h K) K [.pointer (some ⟨hB, hO, none⟩), .agg #[.int .i64 m0, .int .i64 m1, .int .i64 m2, .int .i64 m3, .int .u32 m4, .int .u32 m5, .int .u32 m6, .int .u32 m7, .bool m8, .bool m9, .bool m10]] σ) = corralref18_Home_Takes.m K hB hO m0 m1 m2 m3 m4 m5 m6 m7 m8 m9 m10 σ := by kernel_rfl
theorem corralref18_Home_Takes.ok {K : Value → Store → Prop} {hB hO : Nat} {m0 m1 m2 m3 m4 m5 m6 m7 : Int} {m8 m9 m10 : Bool} {σ : Store} (h : corralref18_Home_Takes.m K hB hO m0 m1 m2 m3 m4 m5 m6 m7 m8 m9 m10 σ) : Spec Pr F.corralref18_Home_Takes [.pointer (some ⟨hB, hO, none⟩), .agg #[.int .i64 m0, .int .i64 m1, .int .i64 m2, .int .i64 m3, .int .u32 m4, .int .u32 m5, .int .u32 m6, .int .u32 m7, .bool m8, .bool m9, .bool m10]] σ K := by
  rw [← corralref18_Home_Takes.m_eq] at h
  exact segF_spec Pr_mixed (hsel_sound fun x hx => by
    simp only [List.mem_cons, List.not_mem_nil, or_false] at hx
    subst hx
    exact corralref18_Home_Takes.d3_ok fun _ _ _ _ _ _ _ _ _ _ _ _ _ _ h => corralref18_Home_Takes.j3_ok K _ _ _ _ _ _ _ _ _ _ _ _ _ _ h) h

/-! ### (*corral/corralref18.Home).Take -/
def corralref18_Home_Take.H : Hints := { esc := [52, 243], cuts := [(8, [0, 5, 38], []), (10, [0, 5], []), (26, [0, 5, 6, 7], []), (29, [0, 5, 6, 7, 152], []), (30, [0, 5, 6, 7], []), (31, [0, 5, 6, 7, 169], []), (33, [0, 6], []), (35, [0, 6], []), (42, [0, 5], []), (43, [0, 5], []), (65, [0], [])] }
noncomputable def corralref18_Home_Take.T : Nat → List Item := stk Pr F.corralref18_Home_Take [(8, [1, 1, 0, 1, 0, 1, 0, 1, 1, 1, 0, 1]), (10, [1, 1, 0, 1, 0, 1, 0, 1, 1, 1, 1]), (26, [1, 1, 0, 1, 0, 1, 1, 1, 0, 1, 1, 1, 1, 1, 1, 1, 0, 1, 0, 0]), (29, [1, 1, 0, 1, 0, 1, 1, 1, 0, 1, 1, 1, 1, 1, 1, 1, 0, 1, 0, 0, 1, 0, 0, 0, 1]), (30, [1, 1, 0, 1, 0, 1, 1, 1, 0, 1, 1, 1, 1, 1, 1, 1, 0, 1, 0, 0, 1, 0, 0, 1]), (31, [1, 1, 0, 1, 0, 1, 1, 1, 0, 1, 1, 1, 1, 1, 1, 1, 0, 1, 0, 0, 1, 0, 0, 1, 1]), (33, [1, 1, 0, 1, 0, 1, 1, 1, 0, 1, 1, 1, 1, 1, 1, 1, 1]), (35, [1, 1, 0, 1, 0, 1, 1, 1, 0, 1, 1, 1, 1, 1, 1, 1, 1, 1]), (42, [1, 1, 0, 1, 0, 1, 1, 1, 1, 1, 0, 0, 1, 0, 1]), (43, [1, 1, 0, 1, 0, 1, 1, 1, 1, 1, 0, 1]), (65, [1, 1, 1])]
abbrev corralref18_Home_Take.R10 : Type := Nat → Nat → Int → Store → Prop
abbrev corralref18_Home_Take.R8 : Type := Nat → Nat → Int → Bool → Store → Prop
abbrev corralref18_Home_Take.R31 : Type := Nat → Nat → Int → Option Addr → Nat → Nat → Int → Bool → Store → Prop
abbrev corralref18_Home_Take.R30 : Type := Nat → Nat → Int → Option Addr → Nat → Nat → Int → Store → Prop
abbrev corralref18_Home_Take.R29 : Type := Nat → Nat → Int → Option Addr → Nat → Nat → Int → Bool → Store → Prop
abbrev corralref18_Home_Take.R35 : Type := Nat → Nat → Option Addr → Nat → Nat → Store → Prop
abbrev corralref18_Home_Take.R33 : Type := Nat → Nat → Option Addr → Nat → Nat → Store → Prop
abbrev corralref18_Home_Take.R26 : Type := Nat → Nat → Int → Option Addr → Nat → Nat → Int → Store → Prop
abbrev corralref18_Home_Take.R43 : Type := Nat → Nat → Int → Store → Prop
abbrev corralref18_Home_Take.R42 : Type := Nat → Nat → Int → Store → Prop
abbrev corralref18_Home_Take.R65 : Type := Nat → Nat → Store → Prop
def corralref18_Home_Take.d10 (g : corralref18_Home_Take.R10) : List AV → List (List Value) → Store → Prop
  | [.v (.pointer (some ⟨hB, hO, none⟩)), .v (.int .i64 r_)], [], σ => g hB hO r_ σ
  | _, _, _ => False
def corralref18_Home_Take.S10 (K : Value → Store → Prop) (hB hO : Nat) (r_ : Int) (σ : Store) : Prop := SndF Pr F.corralref18_Home_Take corralref18_Home_Take.H corralref18_Home_Take.T K 10 [.v (.pointer (some ⟨hB, hO, none⟩)), .v (.int .i64 r_)] [] σ
def corralref18_Home_Take.j10 (K : Value → Store → Prop) (hB hO : Nat) (r_ : Int) (σ : Store) : Prop :=
  StoreK σ hB (hO + 6) 1 [.int .i64 (-1)] fun σ_ =>
  ∃ t59A : Option Addr, ∃ t59N : Nat, ∃ t59C : Nat, cellAt σ_ hB (hO + 7) = some (.slice t59A t59N t59C) ∧
  Spec Pr F.corralref18_without [.slice t59A t59N t59C, .int .i64 r_] σ_ fun v σ_1 => ∃ t61A : Option Addr, ∃ t61N : Nat, ∃ t61C : Nat, v = .slice t61A t61N t61C ∧
  cond (((t61N : Nat) : Int) == 0)
  (StoreK σ_1 hB (hO + 6) 1 [.int .i64 r_] fun σ_2 =>
    StoreK σ_2 hB (hO + 7) 1 [.slice none 0 0] fun σ_3 =>
    ∃ t750 : Int, ∃ t751 : Int, ∃ t752 : Int, ∃ t753 : Int, cellsAt σ_3 hB (hO + 2) 4 = some [.int .u32 t750, .int .u32 t751, .int .u32 t752, .int .u32 t753] ∧
    Spec Pr F.corralref18_Home_data [.pointer (some ⟨hB, hO, none⟩), .agg #[.int .u32 t750, .int .u32 t751, .int .u32 t752, .int .u32 t753], .bool false, .bool true] σ_3 fun v1 σ_4 => ∃ t76A : Option Addr, ∃ t76N : Nat, ∃ t76C : Nat, v1 = .slice t76A t76N t76C ∧
    K (.slice t76A t76N t76C) σ_4)
  (∃ t81A : Option Addr, ∃ t81N : Nat, ∃ t81C : Nat, cellAt σ_1 hB (hO + 7) = some (.slice t81A t81N t81C) ∧
    Spec Pr F.corralref_Ints [.slice t81A t81N t81C] σ_1 fun v2 σ_5 => ∃ t82A : Option Addr, ∃ t82N : Nat, ∃ t82C : Nat, v2 = .slice t82A t82N t82C ∧
    AppK 3 1 8 [.int .i64 0] σ_5 t82A t82N t82C [.int .i64 r_] 1 fun t85A t85N t85C σ_6 =>
    Spec Pr F.corralref_Sorted [.slice t85A t85N t85C] σ_6 fun v3 σ_7 => ∃ t86A : Option Addr, ∃ t86N : Nat, ∃ t86C : Nat, v3 = .slice t86A t86N t86C ∧
    StoreK σ_7 hB (hO + 7) 1 [.slice t86A t86N t86C] fun σ_8 =>
    ∃ t930 : Int, ∃ t931 : Int, ∃ t932 : Int, ∃ t933 : Int, cellsAt σ_8 hB (hO + 2) 4 = some [.int .u32 t930, .int .u32 t931, .int .u32 t932, .int .u32 t933] ∧
    Spec Pr F.corralref18_Home_data [.pointer (some ⟨hB, hO, none⟩), .agg #[.int .u32 t930, .int .u32 t931, .int .u32 t932, .int .u32 t933], .bool false, .bool false] σ_8 fun v4 σ_9 => ∃ t94A : Option Addr, ∃ t94N : Nat, ∃ t94C : Nat, v4 = .slice t94A t94N t94C ∧
    K (.slice t94A t94N t94C) σ_9)
def corralref18_Home_Take.d8 (g : corralref18_Home_Take.R8) : List AV → List (List Value) → Store → Prop
  | [.v (.pointer (some ⟨hB, hO, none⟩)), .v (.int .i64 r_), .v (.bool t38)], [], σ => g hB hO r_ t38 σ
  | _, _, _ => False
def corralref18_Home_Take.S8 (K : Value → Store → Prop) (hB hO : Nat) (r_ : Int) (t38 : Bool) (σ : Store) : Prop := SndF Pr F.corralref18_Home_Take corralref18_Home_Take.H corralref18_Home_Take.T K 8 [.v (.pointer (some ⟨hB, hO, none⟩)), .v (.int .i64 r_), .v (.bool t38)] [] σ
def corralref18_Home_Take.j8 (K : Value → Store → Prop) (hB hO : Nat) (r_ : Int) (t38 : Bool) (σ : Store) : Prop :=
  cond t38
  (∃ t43 : Int, cellAt σ hB (hO + 6) = some (.int .i64 t43) ∧
    StoreK σ hB (hO + 12) 1 [.int .i64 t43] fun σ_ =>
    ∃ t50 : Int, cellAt σ_ hB (hO + 6) = some (.int .i64 t50) ∧
    Spec Pr F.corralref18_Home_msg [.pointer (some ⟨hB, hO, none⟩), .int .i64 5, .int .i64 t50] σ_ fun v σ_1 => ∃ t510 : Int, ∃ t511 : Int, ∃ t512 : Int, ∃ t513 : Int, ∃ t514 : Int, ∃ t515 : Int, ∃ t516 : Int, ∃ t517 : Int, ∃ t518 : Bool, ∃ t519 : Bool, ∃ t5110 : Bool, v = .agg #[.int .i64 t510, .int .i64 t511, .int .i64 t512, .int .i64 t513, .int .u32 t514, .int .u32 t515, .int .u32 t516, .int .u32 t517, .bool t518, .bool t519, .bool t5110] ∧
    New σ_1 ⟨33, [.int .i64 t510, .int .i64 t511, .int .i64 t512, .int .i64 t513, .int .u32 t514, .int .u32 t515, .int .u32 t516, .int .u32 t517, .bool t518, .bool t519, .bool t5110], (0, 0)⟩ fun t52B σ_2 =>
    K (.slice (some ⟨t52B, 0, none⟩) 1 1) σ_2)
  (Hop (corralref18_Home_Take.T 10) (corralref18_Home_Take.T 10) (corralref18_Home_Take.j10 K hB hO r_ σ))
def corralref18_Home_Take.d31 (g : corralref18_Home_Take.R31) : List AV → List (List Value) → Store → Prop
  | [.v (.pointer (some ⟨hB, hO, none⟩)), .v (.int .i64 r_), .v (.slice outA outN outC), .v (.int .i64 k), .v (.bool t169)], [], σ => g hB hO r_ outA outN outC k t169 σ
  | _, _, _ => False
def corralref18_Home_Take.S31 (K : Value → Store → Prop) (hB hO : Nat) (r_ : Int) (outA : Option Addr) (outN outC : Nat) (k : Int) (t169 : Bool) (σ : Store) : Prop := SndF Pr F.corralref18_Home_Take corralref18_Home_Take.H corralref18_Home_Take.T K 31 [.v (.pointer (some ⟨hB, hO, none⟩)), .v (.int .i64 r_), .v (.slice outA outN outC), .v (.int .i64 k), .v (.bool t169)] [] σ
def corralref18_Home_Take.j31 (K : Value → Store → Prop) (r26 : corralref18_Home_Take.R26) (hB hO : Nat) (r_ : Int) (outA : Option Addr) (outN outC : Nat) (k : Int) (t169 : Bool) (σ : Store) : Prop :=
  cond t169
  (StoreK σ hB (hO + 12) 1 [.int .i64 k] fun σ_ =>
    Spec Pr F.corralref18_Home_msg [.pointer (some ⟨hB, hO, none⟩), .int .i64 6, .int .i64 k] σ_ fun v σ_1 => ∃ t1770 : Int, ∃ t1771 : Int, ∃ t1772 : Int, ∃ t1773 : Int, ∃ t1774 : Int, ∃ t1775 : Int, ∃ t1776 : Int, ∃ t1777 : Int, ∃ t1778 : Bool, ∃ t1779 : Bool, ∃ t17710 : Bool, v = .agg #[.int .i64 t1770, .int .i64 t1771, .int .i64 t1772, .int .i64 t1773, .int .u32 t1774, .int .u32 t1775, .int .u32 t1776, .int .u32 t1777, .bool t1778, .bool t1779, .bool t17710] ∧
    AppK 33 11 56 [.int .i64 0, .int .i64 0, .int .i64 0, .int .i64 0, .int .u32 0, .int .u32 0, .int .u32 0, .int .u32 0, .bool false, .bool false, .bool false] σ_1 outA outN outC [.int .i64 t1770, .int .i64 t1771, .int .i64 t1772, .int .i64 t1773, .int .u32 t1774, .int .u32 t1775, .int .u32 t1776, .int .u32 t1777, .bool t1778, .bool t1779, .bool t17710] 1 fun t179A t179N t179C σ_2 =>
    Hop (corralref18_Home_Take.T 26) (corralref18_Home_Take.T 26) (r26 hB hO r_ t179A t179N t179C (IntKind.wrap .i64 (k + 1)) σ_2))
  (Hop (corralref18_Home_Take.T 26) (corralref18_Home_Take.T 26) (r26 hB hO r_ outA outN outC (IntKind.wrap .i64 (k + 1)) σ))
def corralref18_Home_Take.d30 (g : corralref18_Home_Take.R30) : List AV → List (List Value) → Store → Prop
  | [.v (.pointer (some ⟨hB, hO, none⟩)), .v (.int .i64 r_), .v (.slice outA outN outC), .v (.int .i64 k)], [], σ => g hB hO r_ outA outN outC k σ
  | _, _, _ => False
def corralref18_Home_Take.S30 (K : Value → Store → Prop) (hB hO : Nat) (r_ : Int) (outA : Option Addr) (outN outC : Nat) (k : Int) (σ : Store) : Prop := SndF Pr F.corralref18_Home_Take corralref18_Home_Take.H corralref18_Home_Take.T K 30 [.v (.pointer (some ⟨hB, hO, none⟩)), .v (.int .i64 r_), .v (.slice outA outN outC), .v (.int .i64 k)] [] σ
def corralref18_Home_Take.j30 (K : Value → Store → Prop) (r26 : corralref18_Home_Take.R26) (hB hO : Nat) (r_ : Int) (outA : Option Addr) (outN outC : Nat) (k : Int) (σ : Store) : Prop :=
  ∃ t163 : Int, cellAt σ hB (hO + 6) = some (.int .i64 t163) ∧
  cond (k == t163)
  (Hop (corralref18_Home_Take.T 31) (corralref18_Home_Take.T 31) (corralref18_Home_Take.j31 K r26 hB hO r_ outA outN outC k (k != r_) σ))
  (Hop (corralref18_Home_Take.T 31) (corralref18_Home_Take.T 31) (corralref18_Home_Take.j31 K r26 hB hO r_ outA outN outC k false σ))
def corralref18_Home_Take.d29 (g : corralref18_Home_Take.R29) : List AV → List (List Value) → Store → Prop
  | [.v (.pointer (some ⟨hB, hO, none⟩)), .v (.int .i64 r_), .v (.slice outA outN outC), .v (.int .i64 k), .v (.bool t152)], [], σ => g hB hO r_ outA outN outC k t152 σ
  | _, _, _ => False
def corralref18_Home_Take.S29 (K : Value → Store → Prop) (hB hO : Nat) (r_ : Int) (outA : Option Addr) (outN outC : Nat) (k : Int) (t152 : Bool) (σ : Store) : Prop := SndF Pr F.corralref18_Home_Take corralref18_Home_Take.H corralref18_Home_Take.T K 29 [.v (.pointer (some ⟨hB, hO, none⟩)), .v (.int .i64 r_), .v (.slice outA outN outC), .v (.int .i64 k), .v (.bool t152)] [] σ
def corralref18_Home_Take.j29 (K : Value → Store → Prop) (r26 : corralref18_Home_Take.R26) (hB hO : Nat) (r_ : Int) (outA : Option Addr) (outN outC : Nat) (k : Int) (t152 : Bool) (σ : Store) : Prop :=
  cond t152
  (Spec Pr F.corralref18_Home_msg [.pointer (some ⟨hB, hO, none⟩), .int .i64 4, .int .i64 k] σ fun v σ_ => ∃ t1560 : Int, ∃ t1561 : Int, ∃ t1562 : Int, ∃ t1563 : Int, ∃ t1564 : Int, ∃ t1565 : Int, ∃ t1566 : Int, ∃ t1567 : Int, ∃ t1568 : Bool, ∃ t1569 : Bool, ∃ t15610 : Bool, v = .agg #[.int .i64 t1560, .int .i64 t1561, .int .i64 t1562, .int .i64 t1563, .int .u32 t1564, .int .u32 t1565, .int .u32 t1566, .int .u32 t1567, .bool t1568, .bool t1569, .bool t15610] ∧
    AppK 33 11 56 [.int .i64 0, .int .i64 0, .int .i64 0, .int .i64 0, .int .u32 0, .int .u32 0, .int .u32 0, .int .u32 0, .bool false, .bool false, .bool false] σ_ outA outN outC [.int .i64 t1560, .int .i64 t1561, .int .i64 t1562, .int .i64 t1563, .int .u32 t1564, .int .u32 t1565, .int .u32 t1566, .int .u32 t1567, .bool t1568, .bool t1569, .bool t15610] 1 fun t158A t158N t158C σ_1 =>
    Hop (corralref18_Home_Take.T 30) (corralref18_Home_Take.T 30) (corralref18_Home_Take.j30 K r26 hB hO r_ t158A t158N t158C k σ_1))
  (Hop (corralref18_Home_Take.T 30) (corralref18_Home_Take.T 30) (corralref18_Home_Take.j30 K r26 hB hO r_ outA outN outC k σ))
def corralref18_Home_Take.d35 (g : corralref18_Home_Take.R35) : List AV → List (List Value) → Store → Prop
  | [.v (.pointer (some ⟨hB, hO, none⟩)), .v (.slice outA outN outC)], [], σ => g hB hO outA outN outC σ
  | _, _, _ => False
def corralref18_Home_Take.S35 (K : Value → Store → Prop) (hB hO : Nat) (outA : Option Addr) (outN outC : Nat) (σ : Store) : Prop := SndF Pr F.corralref18_Home_Take corralref18_Home_Take.H corralref18_Home_Take.T K 35 [.v (.pointer (some ⟨hB, hO, none⟩)), .v (.slice outA outN outC)] [] σ
def corralref18_Home_Take.j35 (K : Value → Store → Prop) (hB hO : Nat) (outA : Option Addr) (outN outC : Nat) (σ : Store) : Prop :=
  ∃ t200A : Option Addr, ∃ t200N : Nat, ∃ t200C : Nat, cellAt σ hB (hO + 11) = some (.slice t200A t200N t200C) ∧
  cond (((t200N : Nat) : Int) == 0)
  (∃ t207 : Int, cellAt σ hB (hO + 12) = some (.int .i64 t207) ∧
    cond (decide (t207 < 0))
    (Spec Pr F.corralref18_Home_give [.pointer (some ⟨hB, hO, none⟩)] σ fun v σ_ => ∃ t211A : Option Addr, ∃ t211N : Nat, ∃ t211C : Nat, v = .slice t211A t211N t211C ∧
      K (.slice t211A t211N t211C) σ_)
    (K (.slice outA outN outC) σ))
  (K (.slice outA outN outC) σ)
def corralref18_Home_Take.d33 (g : corralref18_Home_Take.R33) : List AV → List (List Value) → Store → Prop
  | [.v (.pointer (some ⟨hB, hO, none⟩)), .v (.slice outA outN outC)], [], σ => g hB hO outA outN outC σ
  | _, _, _ => False
def corralref18_Home_Take.S33 (K : Value → Store → Prop) (hB hO : Nat) (outA : Option Addr) (outN outC : Nat) (σ : Store) : Prop := SndF Pr F.corralref18_Home_Take corralref18_Home_Take.H corralref18_Home_Take.T K 33 [.v (.pointer (some ⟨hB, hO, none⟩)), .v (.slice outA outN outC)] [] σ
def corralref18_Home_Take.j33 (K : Value → Store → Prop) (hB hO : Nat) (outA : Option Addr) (outN outC : Nat) (σ : Store) : Prop :=
  ∃ t183 : Int, cellAt σ hB (hO + 6) = some (.int .i64 t183) ∧
  cond (decide (t183 ≥ 0))
  (∃ t189A : Option Addr, ∃ t189N : Nat, ∃ t189C : Nat, cellAt σ hB (hO + 11) = some (.slice t189A t189N t189C) ∧
    ∃ t193 : Int, cellAt σ hB (hO + 6) = some (.int .i64 t193) ∧
    Spec Pr F.corralref18_without [.slice t189A t189N t189C, .int .i64 t193] σ fun v σ_ => ∃ t194A : Option Addr, ∃ t194N : Nat, ∃ t194C : Nat, v = .slice t194A t194N t194C ∧
    StoreK σ_ hB (hO + 11) 1 [.slice t194A t194N t194C] fun σ_1 =>
    Hop (corralref18_Home_Take.T 35) (corralref18_Home_Take.T 35) (corralref18_Home_Take.j35 K hB hO outA outN outC σ_1))
  (Hop (corralref18_Home_Take.T 35) (corralref18_Home_Take.T 35) (corralref18_Home_Take.j35 K hB hO outA outN outC σ))
def corralref18_Home_Take.d26 (g : corralref18_Home_Take.R26) : List AV → List (List Value) → Store → Prop
  | [.v (.pointer (some ⟨hB, hO, none⟩)), .v (.int .i64 r_), .v (.slice outA outN outC), .v (.int .i64 k)], [], σ => g hB hO r_ outA outN outC k σ
  | _, _, _ => False
def corralref18_Home_Take.S26 (K : Value → Store → Prop) (hB hO : Nat) (r_ : Int) (outA : Option Addr) (outN outC : Nat) (k : Int) (σ : Store) : Prop := SndF Pr F.corralref18_Home_Take corralref18_Home_Take.H corralref18_Home_Take.T K 26 [.v (.pointer (some ⟨hB, hO, none⟩)), .v (.int .i64 r_), .v (.slice outA outN outC), .v (.int .i64 k)] [] σ
def corralref18_Home_Take.b26 (K : Value → Store → Prop) (r26 : corralref18_Home_Take.R26) (hB hO : Nat) (r_ : Int) (outA : Option Addr) (outN outC : Nat) (k : Int) (σ : Store) : Prop :=
  ∃ t135 : Int, cellAt σ hB (hO + 1) = some (.int .i64 t135) ∧
  cond (decide (k < t135))
  (∃ t142A : Option Addr, ∃ t142N : Nat, ∃ t142C : Nat, cellAt σ hB (hO + 11) = some (.slice t142A t142N t142C) ∧
    Spec Pr F.corralref_Among [.slice t142A t142N t142C, .int .i64 k] σ fun v σ_ => ∃ t144 : Bool, v = .bool t144 ∧
    cond t144
    (∃ t150 : Int, cellAt σ_ hB (hO + 6) = some (.int .i64 t150) ∧
      Hop (corralref18_Home_Take.T 29) (corralref18_Home_Take.T 29) (corralref18_Home_Take.j29 K r26 hB hO r_ outA outN outC k (k != t150) σ_))
    (Hop (corralref18_Home_Take.T 29) (corralref18_Home_Take.T 29) (corralref18_Home_Take.j29 K r26 hB hO r_ outA outN outC k false σ_)))
  (Hop (corralref18_Home_Take.T 33) (corralref18_Home_Take.T 33) (corralref18_Home_Take.j33 K hB hO outA outN outC σ))
def corralref18_Home_Take.l26 (K : Value → Store → Prop) : Nat → corralref18_Home_Take.R26
  | 0, _, _, _, _, _, _, _, _ => False
  | n + 1, hB, hO, r_, outA, outN, outC, k, σ => corralref18_Home_Take.b26 K (corralref18_Home_Take.l26 K n) hB hO r_ outA outN outC k σ
def corralref18_Home_Take.d43 (g : corralref18_Home_Take.R43) : List AV → List (List Value) → Store → Prop
  | [.v (.pointer (some ⟨hB, hO, none⟩)), .v (.int .i64 r_)], [], σ => g hB hO r_ σ
  | _, _, _ => False
def corralref18_Home_Take.S43 (K : Value → Store → Prop) (hB hO : Nat) (r_ : Int) (σ : Store) : Prop := SndF Pr F.corralref18_Home_Take corralref18_Home_Take.H corralref18_Home_Take.T K 43 [.v (.pointer (some ⟨hB, hO, none⟩)), .v (.int .i64 r_)] [] σ
def corralref18_Home_Take.j43 (K : Value → Store → Prop) (hB hO : Nat) (r_ : Int) (σ : Store) : Prop :=
  ∃ t235A : Option Addr, ∃ t235N : Nat, ∃ t235C : Nat, cellAt σ hB (hO + 7) = some (.slice t235A t235N t235C) ∧
  Spec Pr F.corralref18_without [.slice t235A t235N t235C, .int .i64 r_] σ fun v σ_ => ∃ t237A : Option Addr, ∃ t237N : Nat, ∃ t237C : Nat, v = .slice t237A t237N t237C ∧
  StoreK σ_ hB (hO + 7) 1 [.slice t237A t237N t237C] fun σ_1 =>
  Spec Pr F.corralref18_Home_msg [.pointer (some ⟨hB, hO, none⟩), .int .i64 9, .int .i64 r_] σ_1 fun v1 σ_2 => ∃ t2420 : Int, ∃ t2421 : Int, ∃ t2422 : Int, ∃ t2423 : Int, ∃ t2424 : Int, ∃ t2425 : Int, ∃ t2426 : Int, ∃ t2427 : Int, ∃ t2428 : Bool, ∃ t2429 : Bool, ∃ t24210 : Bool, v1 = .agg #[.int .i64 t2420, .int .i64 t2421, .int .i64 t2422, .int .i64 t2423, .int .u32 t2424, .int .u32 t2425, .int .u32 t2426, .int .u32 t2427, .bool t2428, .bool t2429, .bool t24210] ∧
  New σ_2 ⟨33, [.int .i64 t2420, .int .i64 t2421, .int .i64 t2422, .int .i64 t2423, .int .u32 t2424, .int .u32 t2425, .int .u32 t2426, .int .u32 t2427, .bool t2428, .bool t2429, .bool t24210], (0, 0)⟩ fun t243B σ_3 =>
  K (.slice (some ⟨t243B, 0, none⟩) 1 1) σ_3
def corralref18_Home_Take.d42 (g : corralref18_Home_Take.R42) : List AV → List (List Value) → Store → Prop
  | [.v (.pointer (some ⟨hB, hO, none⟩)), .v (.int .i64 r_)], [], σ => g hB hO r_ σ
  | _, _, _ => False
def corralref18_Home_Take.S42 (K : Value → Store → Prop) (hB hO : Nat) (r_ : Int) (σ : Store) : Prop := SndF Pr F.corralref18_Home_Take corralref18_Home_Take.H corralref18_Home_Take.T K 42 [.v (.pointer (some ⟨hB, hO, none⟩)), .v (.int .i64 r_)] [] σ
def corralref18_Home_Take.j42 (K : Value → Store → Prop) (hB hO : Nat) (r_ : Int) (σ : Store) : Prop :=
  StoreK σ hB (hO + 6) 1 [.int .i64 (-1)] fun σ_ =>
  Hop (corralref18_Home_Take.T 43) (corralref18_Home_Take.T 43) (corralref18_Home_Take.j43 K hB hO r_ σ_)
def corralref18_Home_Take.d65 (g : corralref18_Home_Take.R65) : List AV → List (List Value) → Store → Prop
  | [.v (.pointer (some ⟨hB, hO, none⟩))], [], σ => g hB hO σ
  | _, _, _ => False
def corralref18_Home_Take.S65 (K : Value → Store → Prop) (hB hO : Nat) (σ : Store) : Prop := SndF Pr F.corralref18_Home_Take corralref18_Home_Take.H corralref18_Home_Take.T K 65 [.v (.pointer (some ⟨hB, hO, none⟩))] [] σ
def corralref18_Home_Take.j65 (K : Value → Store → Prop) (hB hO : Nat) (σ : Store) : Prop :=
  StoreK σ hB (hO + 8) 1 [.bool false] fun σ_ =>
  K (.slice none 0 0) σ_
def corralref18_Home_Take.m (K : Value → Store → Prop) (hB hO : Nat) (m0 m1 m2 m3 m4 m5 m6 m7 : Int) (m8 m9 m10 : Bool) (σ : Store) : Prop :=
  cond (m0 == 1)
  (StoreK σ hB (hO + 8) 1 [.bool true] fun σ_ =>
    StoreK σ_ hB (hO + 9) 1 [.int .i64 m0] fun σ_1 =>
    StoreK σ_1 hB (hO + 10) 1 [.int .i64 m2] fun σ_2 =>
    ∃ t29 : Int, cellAt σ_2 hB (hO + 6) = some (.int .i64 t29) ∧
    cond (decide (t29 ≥ 0))
    (∃ t35 : Int, cellAt σ_2 hB (hO + 6) = some (.int .i64 t35) ∧
      Hop (corralref18_Home_Take.T 8) (corralref18_Home_Take.T 8) (corralref18_Home_Take.j8 K hB hO m2 (t35 != m2) σ_2))
    (Hop (corralref18_Home_Take.T 8) (corralref18_Home_Take.T 8) (corralref18_Home_Take.j8 K hB hO m2 false σ_2)))
  (cond (m0 == 2)
    (StoreK σ hB (hO + 8) 1 [.bool true] fun σ_3 =>
      StoreK σ_3 hB (hO + 9) 1 [.int .i64 m0] fun σ_4 =>
      StoreK σ_4 hB (hO + 10) 1 [.int .i64 m2] fun σ_5 =>
      StoreK σ_5 hB (hO + 13) 11 [.int .i64 0, .int .i64 0, .int .i64 0, .int .i64 0, .int .u32 0, .int .u32 0, .int .u32 0, .int .u32 0, .bool false, .bool false, .bool false] fun σ_6 =>
      ∃ t117 : Int, cellAt σ_6 hB (hO + 6) = some (.int .i64 t117) ∧
      StoreK σ_6 hB (hO + 24) 1 [.bool (t117 == m2)] fun σ_7 =>
      ∃ t126A : Option Addr, ∃ t126N : Nat, ∃ t126C : Nat, cellAt σ_7 hB (hO + 7) = some (.slice t126A t126N t126C) ∧
      Spec Pr F.corralref18_without [.slice t126A t126N t126C, .int .i64 m2] σ_7 fun v σ_8 => ∃ t128A : Option Addr, ∃ t128N : Nat, ∃ t128C : Nat, v = .slice t128A t128N t128C ∧
      StoreK σ_8 hB (hO + 11) 1 [.slice t128A t128N t128C] fun σ_9 =>
      Hop (corralref18_Home_Take.T 26) (corralref18_Home_Take.T 26) (∃ n : Nat, corralref18_Home_Take.l26 K n hB hO m2 none 0 0 0 σ_9))
    (cond (m0 == 3)
      (∃ t218 : Int, cellAt σ hB (hO + 6) = some (.int .i64 t218) ∧
        cond (t218 == m2)
        (cond m9
          (StoreK σ hB (hO + 2) 4 [.int .u32 m4, .int .u32 m5, .int .u32 m6, .int .u32 m7] fun σ_10 =>
            Hop (corralref18_Home_Take.T 42) (corralref18_Home_Take.T 42) (corralref18_Home_Take.j42 K hB hO m2 σ_10))
          (Hop (corralref18_Home_Take.T 42) (corralref18_Home_Take.T 42) (corralref18_Home_Take.j42 K hB hO m2 σ)))
        (Hop (corralref18_Home_Take.T 43) (corralref18_Home_Take.T 43) (corralref18_Home_Take.j43 K hB hO m2 σ)))
      (cond (m0 == 10)
        (∃ t250A : Option Addr, ∃ t250N : Nat, ∃ t250C : Nat, cellAt σ hB (hO + 11) = some (.slice t250A t250N t250C) ∧
          Spec Pr F.corralref18_without [.slice t250A t250N t250C, .int .i64 m2] σ fun v1 σ_11 => ∃ t252A : Option Addr, ∃ t252N : Nat, ∃ t252C : Nat, v1 = .slice t252A t252N t252C ∧
          StoreK σ_11 hB (hO + 11) 1 [.slice t252A t252N t252C] fun σ_12 =>
          ∃ t258A : Option Addr, ∃ t258N : Nat, ∃ t258C : Nat, cellAt σ_12 hB (hO + 11) = some (.slice t258A t258N t258C) ∧
          cond (((t258N : Nat) : Int) == 0)
          (∃ t265 : Int, cellAt σ_12 hB (hO + 12) = some (.int .i64 t265) ∧
            cond (decide (t265 < 0))
            (Spec Pr F.corralref18_Home_give [.pointer (some ⟨hB, hO, none⟩)] σ_12 fun v2 σ_13 => ∃ t269A : Option Addr, ∃ t269N : Nat, ∃ t269C : Nat, v2 = .slice t269A t269N t269C ∧
              K (.slice t269A t269N t269C) σ_13)
            (K (.slice none 0 0) σ_12))
          (K (.slice none 0 0) σ_12))
        (cond (m0 == 11)
          (StoreK σ hB (hO + 12) 1 [.int .i64 (-1)] fun σ_14 =>
            ∃ t278 : Int, cellAt σ_14 hB (hO + 9) = some (.int .i64 t278) ∧
            cond (t278 == 2)
            (StoreK σ_14 hB (hO + 13) 11 [.int .i64 m0, .int .i64 m1, .int .i64 m2, .int .i64 m3, .int .u32 m4, .int .u32 m5, .int .u32 m6, .int .u32 m7, .bool m8, .bool m9, .bool m10] fun σ_15 =>
              ∃ t287A : Option Addr, ∃ t287N : Nat, ∃ t287C : Nat, cellAt σ_15 hB (hO + 11) = some (.slice t287A t287N t287C) ∧
              cond (((t287N : Nat) : Int) == 0)
              (Spec Pr F.corralref18_Home_give [.pointer (some ⟨hB, hO, none⟩)] σ_15 fun v3 σ_16 => ∃ t291A : Option Addr, ∃ t291N : Nat, ∃ t291C : Nat, v3 = .slice t291A t291N t291C ∧
                K (.slice t291A t291N t291C) σ_16)
              (K (.slice none 0 0) σ_15))
            (∃ t296A : Option Addr, ∃ t296N : Nat, ∃ t296C : Nat, cellAt σ_14 hB (hO + 7) = some (.slice t296A t296N t296C) ∧
              ∃ t301 : Int, cellAt σ_14 hB (hO + 10) = some (.int .i64 t301) ∧
              (Spec Pr F.corralref_Ints [.slice t296A t296N t296C] σ_14 fun v4 σ_17 => ∃ t297A : Option Addr, ∃ t297N : Nat, ∃ t297C : Nat, v4 = .slice t297A t297N t297C ∧
                cellsAt σ_17 hB (hO + 10) 1 = some [.int .i64 t301] ∧
                AppK 3 1 8 [.int .i64 0] σ_17 t297A t297N t297C [.int .i64 t301] 1 fun t303A t303N t303C σ_18 =>
                Spec Pr F.corralref_Sorted [.slice t303A t303N t303C] σ_18 fun v5 σ_19 => ∃ t304A : Option Addr, ∃ t304N : Nat, ∃ t304C : Nat, v5 = .slice t304A t304N t304C ∧
                StoreK σ_19 hB (hO + 7) 1 [.slice t304A t304N t304C] fun σ_20 =>
                cond m9
                (Spec Pr F.corralref18_Home_data [.pointer (some ⟨hB, hO, none⟩), .agg #[.int .u32 m4, .int .u32 m5, .int .u32 m6, .int .u32 m7], .bool false, .bool false] σ_20 fun v6 σ_21 => ∃ t312A : Option Addr, ∃ t312N : Nat, ∃ t312C : Nat, v6 = .slice t312A t312N t312C ∧
                  K (.slice t312A t312N t312C) σ_21)
                (StoreK σ_20 hB (hO + 6) 1 [.int .i64 (-1)] fun σ_22 =>
                  cond m8
                  (∃ t322A : Option Addr, ∃ t322N : Nat, ∃ t322C : Nat, cellAt σ_22 hB (hO + 7) = some (.slice t322A t322N t322C) ∧
                    Spec Pr F.corralref_Ints [.slice t322A t322N t322C] σ_22 fun v7 σ_23 => ∃ t323A : Option Addr, ∃ t323N : Nat, ∃ t323C : Nat, v7 = .slice t323A t323N t323C ∧
                    AppK 3 1 8 [.int .i64 0] σ_23 t323A t323N t323C [.int .i64 m2] 1 fun t326A t326N t326C σ_24 =>
                    Spec Pr F.corralref_Sorted [.slice t326A t326N t326C] σ_24 fun v8 σ_25 => ∃ t327A : Option Addr, ∃ t327N : Nat, ∃ t327C : Nat, v8 = .slice t327A t327N t327C ∧
                    StoreK σ_25 hB (hO + 7) 1 [.slice t327A t327N t327C] fun σ_26 =>
                    Spec Pr F.corralref18_Home_data [.pointer (some ⟨hB, hO, none⟩), .agg #[.int .u32 m4, .int .u32 m5, .int .u32 m6, .int .u32 m7], .bool false, .bool false] σ_26 fun v9 σ_27 => ∃ t333A : Option Addr, ∃ t333N : Nat, ∃ t333C : Nat, v9 = .slice t333A t333N t333C ∧
                    K (.slice t333A t333N t333C) σ_27)
                  (∃ t3380 : Int, ∃ t3381 : Int, ∃ t3382 : Int, ∃ t3383 : Int, cellsAt σ_22 hB (hO + 2) 4 = some [.int .u32 t3380, .int .u32 t3381, .int .u32 t3382, .int .u32 t3383] ∧
                    Spec Pr F.corralref18_Home_data [.pointer (some ⟨hB, hO, none⟩), .agg #[.int .u32 t3380, .int .u32 t3381, .int .u32 t3382, .int .u32 t3383], .bool false, .bool false] σ_22 fun v10 σ_28 => ∃ t339A : Option Addr, ∃ t339N : Nat, ∃ t339C : Nat, v10 = .slice t339A t339N t339C ∧
                    K (.slice t339A t339N t339C) σ_28))) ∧
              (cellsAt σ_14 hB (hO + 7) 1 = some [.slice t296A t296N t296C] ∧
                Spec Pr F.corralref_Ints [.slice t296A t296N t296C] σ_14 fun v11 σ_29 => ∃ t297A1 : Option Addr, ∃ t297N1 : Nat, ∃ t297C1 : Nat, v11 = .slice t297A1 t297N1 t297C1 ∧
                AppK 3 1 8 [.int .i64 0] σ_29 t297A1 t297N1 t297C1 [.int .i64 t301] 1 fun t303A1 t303N1 t303C1 σ_30 =>
                Spec Pr F.corralref_Sorted [.slice t303A1 t303N1 t303C1] σ_30 fun v12 σ_31 => ∃ t304A1 : Option Addr, ∃ t304N1 : Nat, ∃ t304C1 : Nat, v12 = .slice t304A1 t304N1 t304C1 ∧
                StoreK σ_31 hB (hO + 7) 1 [.slice t304A1 t304N1 t304C1] fun σ_32 =>
                cond m9
                (Spec Pr F.corralref18_Home_data [.pointer (some ⟨hB, hO, none⟩), .agg #[.int .u32 m4, .int .u32 m5, .int .u32 m6, .int .u32 m7], .bool false, .bool false] σ_32 fun v13 σ_33 => ∃ t312A1 : Option Addr, ∃ t312N1 : Nat, ∃ t312C1 : Nat, v13 = .slice t312A1 t312N1 t312C1 ∧
                  K (.slice t312A1 t312N1 t312C1) σ_33)
                (StoreK σ_32 hB (hO + 6) 1 [.int .i64 (-1)] fun σ_34 =>
                  cond m8
                  (∃ t322A1 : Option Addr, ∃ t322N1 : Nat, ∃ t322C1 : Nat, cellAt σ_34 hB (hO + 7) = some (.slice t322A1 t322N1 t322C1) ∧
                    Spec Pr F.corralref_Ints [.slice t322A1 t322N1 t322C1] σ_34 fun v14 σ_35 => ∃ t323A1 : Option Addr, ∃ t323N1 : Nat, ∃ t323C1 : Nat, v14 = .slice t323A1 t323N1 t323C1 ∧
                    AppK 3 1 8 [.int .i64 0] σ_35 t323A1 t323N1 t323C1 [.int .i64 m2] 1 fun t326A1 t326N1 t326C1 σ_36 =>
                    Spec Pr F.corralref_Sorted [.slice t326A1 t326N1 t326C1] σ_36 fun v15 σ_37 => ∃ t327A1 : Option Addr, ∃ t327N1 : Nat, ∃ t327C1 : Nat, v15 = .slice t327A1 t327N1 t327C1 ∧
                    StoreK σ_37 hB (hO + 7) 1 [.slice t327A1 t327N1 t327C1] fun σ_38 =>
                    Spec Pr F.corralref18_Home_data [.pointer (some ⟨hB, hO, none⟩), .agg #[.int .u32 m4, .int .u32 m5, .int .u32 m6, .int .u32 m7], .bool false, .bool false] σ_38 fun v16 σ_39 => ∃ t333A1 : Option Addr, ∃ t333N1 : Nat, ∃ t333C1 : Nat, v16 = .slice t333A1 t333N1 t333C1 ∧
                    K (.slice t333A1 t333N1 t333C1) σ_39)
                  (∃ t3380_1 : Int, ∃ t3381_1 : Int, ∃ t3382_1 : Int, ∃ t3383_1 : Int, cellsAt σ_34 hB (hO + 2) 4 = some [.int .u32 t3380_1, .int .u32 t3381_1, .int .u32 t3382_1, .int .u32 t3383_1] ∧
                    Spec Pr F.corralref18_Home_data [.pointer (some ⟨hB, hO, none⟩), .agg #[.int .u32 t3380_1, .int .u32 t3381_1, .int .u32 t3382_1, .int .u32 t3383_1], .bool false, .bool false] σ_34 fun v17 σ_40 => ∃ t339A1 : Option Addr, ∃ t339N1 : Nat, ∃ t339C1 : Nat, v17 = .slice t339A1 t339N1 t339C1 ∧
                    K (.slice t339A1 t339N1 t339C1) σ_40)))))
          (Hop (corralref18_Home_Take.T 65) (corralref18_Home_Take.T 65) (corralref18_Home_Take.j65 K hB hO σ))))))
theorem corralref18_Home_Take.d10_ok {K : Value → Store → Prop} {g : corralref18_Home_Take.R10} (hg : ∀ hB hO r_ σ, g hB hO r_ σ → corralref18_Home_Take.S10 K hB hO r_ σ) (vs : List AV) (bs : List (List Value)) (σ : Store) (h : corralref18_Home_Take.d10 g vs bs σ) : SndF Pr F.corralref18_Home_Take corralref18_Home_Take.H corralref18_Home_Take.T K 10 vs bs σ := by
  unfold corralref18_Home_Take.d10 at h
  split at h
  · exact hg _ _ _ _ h
  · exact h.elim
theorem corralref18_Home_Take.d8_ok {K : Value → Store → Prop} {g : corralref18_Home_Take.R8} (hg : ∀ hB hO r_ t38 σ, g hB hO r_ t38 σ → corralref18_Home_Take.S8 K hB hO r_ t38 σ) (vs : List AV) (bs : List (List Value)) (σ : Store) (h : corralref18_Home_Take.d8 g vs bs σ) : SndF Pr F.corralref18_Home_Take corralref18_Home_Take.H corralref18_Home_Take.T K 8 vs bs σ := by
  unfold corralref18_Home_Take.d8 at h
  split at h
  · exact hg _ _ _ _ _ h
  · exact h.elim
theorem corralref18_Home_Take.d31_ok {K : Value → Store → Prop} {g : corralref18_Home_Take.R31} (hg : ∀ hB hO r_ outA outN outC k t169 σ, g hB hO r_ outA outN outC k t169 σ → corralref18_Home_Take.S31 K hB hO r_ outA outN outC k t169 σ) (vs : List AV) (bs : List (List Value)) (σ : Store) (h : corralref18_Home_Take.d31 g vs bs σ) : SndF Pr F.corralref18_Home_Take corralref18_Home_Take.H corralref18_Home_Take.T K 31 vs bs σ := by
  unfold corralref18_Home_Take.d31 at h
  split at h
  · exact hg _ _ _ _ _ _ _ _ _ h
  · exact h.elim
theorem corralref18_Home_Take.d30_ok {K : Value → Store → Prop} {g : corralref18_Home_Take.R30} (hg : ∀ hB hO r_ outA outN outC k σ, g hB hO r_ outA outN outC k σ → corralref18_Home_Take.S30 K hB hO r_ outA outN outC k σ) (vs : List AV) (bs : List (List Value)) (σ : Store) (h : corralref18_Home_Take.d30 g vs bs σ) : SndF Pr F.corralref18_Home_Take corralref18_Home_Take.H corralref18_Home_Take.T K 30 vs bs σ := by
  unfold corralref18_Home_Take.d30 at h
  split at h
  · exact hg _ _ _ _ _ _ _ _ h
  · exact h.elim
theorem corralref18_Home_Take.d29_ok {K : Value → Store → Prop} {g : corralref18_Home_Take.R29} (hg : ∀ hB hO r_ outA outN outC k t152 σ, g hB hO r_ outA outN outC k t152 σ → corralref18_Home_Take.S29 K hB hO r_ outA outN outC k t152 σ) (vs : List AV) (bs : List (List Value)) (σ : Store) (h : corralref18_Home_Take.d29 g vs bs σ) : SndF Pr F.corralref18_Home_Take corralref18_Home_Take.H corralref18_Home_Take.T K 29 vs bs σ := by
  unfold corralref18_Home_Take.d29 at h
  split at h
  · exact hg _ _ _ _ _ _ _ _ _ h
  · exact h.elim
theorem corralref18_Home_Take.d35_ok {K : Value → Store → Prop} {g : corralref18_Home_Take.R35} (hg : ∀ hB hO outA outN outC σ, g hB hO outA outN outC σ → corralref18_Home_Take.S35 K hB hO outA outN outC σ) (vs : List AV) (bs : List (List Value)) (σ : Store) (h : corralref18_Home_Take.d35 g vs bs σ) : SndF Pr F.corralref18_Home_Take corralref18_Home_Take.H corralref18_Home_Take.T K 35 vs bs σ := by
  unfold corralref18_Home_Take.d35 at h
  split at h
  · exact hg _ _ _ _ _ _ h
  · exact h.elim
theorem corralref18_Home_Take.d33_ok {K : Value → Store → Prop} {g : corralref18_Home_Take.R33} (hg : ∀ hB hO outA outN outC σ, g hB hO outA outN outC σ → corralref18_Home_Take.S33 K hB hO outA outN outC σ) (vs : List AV) (bs : List (List Value)) (σ : Store) (h : corralref18_Home_Take.d33 g vs bs σ) : SndF Pr F.corralref18_Home_Take corralref18_Home_Take.H corralref18_Home_Take.T K 33 vs bs σ := by
  unfold corralref18_Home_Take.d33 at h
  split at h
  · exact hg _ _ _ _ _ _ h
  · exact h.elim
theorem corralref18_Home_Take.d26_ok {K : Value → Store → Prop} {g : corralref18_Home_Take.R26} (hg : ∀ hB hO r_ outA outN outC k σ, g hB hO r_ outA outN outC k σ → corralref18_Home_Take.S26 K hB hO r_ outA outN outC k σ) (vs : List AV) (bs : List (List Value)) (σ : Store) (h : corralref18_Home_Take.d26 g vs bs σ) : SndF Pr F.corralref18_Home_Take corralref18_Home_Take.H corralref18_Home_Take.T K 26 vs bs σ := by
  unfold corralref18_Home_Take.d26 at h
  split at h
  · exact hg _ _ _ _ _ _ _ _ h
  · exact h.elim
theorem corralref18_Home_Take.d43_ok {K : Value → Store → Prop} {g : corralref18_Home_Take.R43} (hg : ∀ hB hO r_ σ, g hB hO r_ σ → corralref18_Home_Take.S43 K hB hO r_ σ) (vs : List AV) (bs : List (List Value)) (σ : Store) (h : corralref18_Home_Take.d43 g vs bs σ) : SndF Pr F.corralref18_Home_Take corralref18_Home_Take.H corralref18_Home_Take.T K 43 vs bs σ := by
  unfold corralref18_Home_Take.d43 at h
  split at h
  · exact hg _ _ _ _ h
  · exact h.elim
theorem corralref18_Home_Take.d42_ok {K : Value → Store → Prop} {g : corralref18_Home_Take.R42} (hg : ∀ hB hO r_ σ, g hB hO r_ σ → corralref18_Home_Take.S42 K hB hO r_ σ) (vs : List AV) (bs : List (List Value)) (σ : Store) (h : corralref18_Home_Take.d42 g vs bs σ) : SndF Pr F.corralref18_Home_Take corralref18_Home_Take.H corralref18_Home_Take.T K 42 vs bs σ := by
  unfold corralref18_Home_Take.d42 at h
  split at h
  · exact hg _ _ _ _ h
  · exact h.elim
theorem corralref18_Home_Take.d65_ok {K : Value → Store → Prop} {g : corralref18_Home_Take.R65} (hg : ∀ hB hO σ, g hB hO σ → corralref18_Home_Take.S65 K hB hO σ) (vs : List AV) (bs : List (List Value)) (σ : Store) (h : corralref18_Home_Take.d65 g vs bs σ) : SndF Pr F.corralref18_Home_Take corralref18_Home_Take.H corralref18_Home_Take.T K 65 vs bs σ := by
  unfold corralref18_Home_Take.d65 at h
  split at h
  · exact hg _ _ _ h
  · exact h.elim
noncomputable def corralref18_Home_Take.h10 (K : Value → Store → Prop) : Hand := hsel []
theorem corralref18_Home_Take.j10_eq (K : Value → Store → Prop) (hB hO : Nat) (r_ : Int) (σ : Store) : (seg Pr corralref18_Home_Take.H F.corralref18_Home_Take corralref18_Home_Take.T (corralref18_Home_Take.h10 K ) K (corralref18_Home_Take.T 10) (Ev.cutE corralref18_Home_Take.H 10 [.v (.pointer (some ⟨hB, hO, none⟩)), .v (.int .i64 r_)] []) σ) = corralref18_Home_Take.j10 K hB hO r_ σ := by kernel_rfl
theorem corralref18_Home_Take.j10_ok (K : Value → Store → Prop) (hB hO : Nat) (r_ : Int) (σ : Store) (h : corralref18_Home_Take.j10 K hB hO r_ σ) : corralref18_Home_Take.S10 K hB hO r_ σ := by
  rw [← corralref18_Home_Take.j10_eq] at h
  exact seg_snd Pr_mixed (hsel_sound fun x hx => by
    cases hx) h
noncomputable def corralref18_Home_Take.h8 (K : Value → Store → Prop) : Hand := hsel [(10, corralref18_Home_Take.d10 (corralref18_Home_Take.j10 K ))]
theorem corralref18_Home_Take.j8_eq (K : Value → Store → Prop) (hB hO : Nat) (r_ : Int) (t38 : Bool) (σ : Store) : (seg Pr corralref18_Home_Take.H F.corralref18_Home_Take corralref18_Home_Take.T (corralref18_Home_Take.h8 K ) K (corralref18_Home_Take.T 8) (Ev.cutE corralref18_Home_Take.H 8 [.v (.pointer (some ⟨hB, hO, none⟩)), .v (.int .i64 r_), .v (.bool t38)] []) σ) = corralref18_Home_Take.j8 K hB hO r_ t38 σ := by kernel_rfl
theorem corralref18_Home_Take.j8_ok (K : Value → Store → Prop) (hB hO : Nat) (r_ : Int) (t38 : Bool) (σ : Store) (h : corralref18_Home_Take.j8 K hB hO r_ t38 σ) : corralref18_Home_Take.S8 K hB hO r_ t38 σ := by
  rw [← corralref18_Home_Take.j8_eq] at h
  exact seg_snd Pr_mixed (hsel_sound fun x hx => by
    simp only [List.mem_cons, List.not_mem_nil, or_false] at hx
    subst hx
    exact corralref18_Home_Take.d10_ok fun _ _ _ _ h => corralref18_Home_Take.j10_ok K _ _ _ _ h) h
noncomputable def corralref18_Home_Take.h31 (K : Value → Store → Prop) (r26 : corralref18_Home_Take.R26) : Hand := hsel [(26, corralref18_Home_Take.d26 r26)]
theorem corralref18_Home_Take.j31_eq (K : Value → Store → Prop) (r26 : corralref18_Home_Take.R26) (hB hO : Nat) (r_ : Int) (outA : Option Addr) (outN outC : Nat) (k : Int) (t169 : Bool) (σ : Store) : (seg Pr corralref18_Home_Take.H F.corralref18_Home_Take corralref18_Home_Take.T (corralref18_Home_Take.h31 K r26) K (corralref18_Home_Take.T 31) (Ev.cutE corralref18_Home_Take.H 31 [.v (.pointer (some ⟨hB, hO, none⟩)), .v (.int .i64 r_), .v (.slice outA outN outC), .v (.int .i64 k), .v (.bool t169)] []) σ) = corralref18_Home_Take.j31 K r26 hB hO r_ outA outN outC k t169 σ := by kernel_rfl
theorem corralref18_Home_Take.j31_ok (K : Value → Store → Prop) (r26 : corralref18_Home_Take.R26) (h26 : ∀ hB hO r_ outA outN outC k σ, r26 hB hO r_ outA outN outC k σ → corralref18_Home_Take.S26 K hB hO r_ outA outN outC k σ) (hB hO : Nat) (r_ : Int) (outA : Option Addr) (outN outC : Nat) (k : Int) (t169 : Bool) (σ : Store) (h : corralref18_Home_Take.j31 K r26 hB hO r_ outA outN outC k t169 σ) : corralref18_Home_Take.S31 K hB hO r_ outA outN outC k t169 σ := by
  rw [← corralref18_Home_Take.j31_eq] at h
  exact seg_snd Pr_mixed (hsel_sound fun x hx => by
    simp only [List.mem_cons, List.not_mem_nil, or_false] at hx
    subst hx
    exact corralref18_Home_Take.d26_ok h26) h
noncomputable def corralref18_Home_Take.h30 (K : Value → Store → Prop) (r26 : corralref18_Home_Take.R26) : Hand := hsel [(31, corralref18_Home_Take.d31 (corralref18_Home_Take.j31 K r26)), (26, corralref18_Home_Take.d26 r26)]
theorem corralref18_Home_Take.j30_eq (K : Value → Store → Prop) (r26 : corralref18_Home_Take.R26) (hB hO : Nat) (r_ : Int) (outA : Option Addr) (outN outC : Nat) (k : Int) (σ : Store) : (seg Pr corralref18_Home_Take.H F.corralref18_Home_Take corralref18_Home_Take.T (corralref18_Home_Take.h30 K r26) K (corralref18_Home_Take.T 30) (Ev.cutE corralref18_Home_Take.H 30 [.v (.pointer (some ⟨hB, hO, none⟩)), .v (.int .i64 r_), .v (.slice outA outN outC), .v (.int .i64 k)] []) σ) = corralref18_Home_Take.j30 K r26 hB hO r_ outA outN outC k σ := by kernel_rfl
theorem corralref18_Home_Take.j30_ok (K : Value → Store → Prop) (r26 : corralref18_Home_Take.R26) (h26 : ∀ hB hO r_ outA outN outC k σ, r26 hB hO r_ outA outN outC k σ → corralref18_Home_Take.S26 K hB hO r_ outA outN outC k σ) (hB hO : Nat) (r_ : Int) (outA : Option Addr) (outN outC : Nat) (k : Int) (σ : Store) (h : corralref18_Home_Take.j30 K r26 hB hO r_ outA outN outC k σ) : corralref18_Home_Take.S30 K hB hO r_ outA outN outC k σ := by
  rw [← corralref18_Home_Take.j30_eq] at h
  exact seg_snd Pr_mixed (hsel_sound fun x hx => by
    simp only [List.mem_cons, List.not_mem_nil, or_false] at hx
    rcases hx with rfl | rfl
    · exact corralref18_Home_Take.d31_ok fun _ _ _ _ _ _ _ _ _ h => corralref18_Home_Take.j31_ok K r26 h26 _ _ _ _ _ _ _ _ _ h
    · exact corralref18_Home_Take.d26_ok h26) h
noncomputable def corralref18_Home_Take.h29 (K : Value → Store → Prop) (r26 : corralref18_Home_Take.R26) : Hand := hsel [(30, corralref18_Home_Take.d30 (corralref18_Home_Take.j30 K r26)), (26, corralref18_Home_Take.d26 r26)]
theorem corralref18_Home_Take.j29_eq (K : Value → Store → Prop) (r26 : corralref18_Home_Take.R26) (hB hO : Nat) (r_ : Int) (outA : Option Addr) (outN outC : Nat) (k : Int) (t152 : Bool) (σ : Store) : (seg Pr corralref18_Home_Take.H F.corralref18_Home_Take corralref18_Home_Take.T (corralref18_Home_Take.h29 K r26) K (corralref18_Home_Take.T 29) (Ev.cutE corralref18_Home_Take.H 29 [.v (.pointer (some ⟨hB, hO, none⟩)), .v (.int .i64 r_), .v (.slice outA outN outC), .v (.int .i64 k), .v (.bool t152)] []) σ) = corralref18_Home_Take.j29 K r26 hB hO r_ outA outN outC k t152 σ := by kernel_rfl
theorem corralref18_Home_Take.j29_ok (K : Value → Store → Prop) (r26 : corralref18_Home_Take.R26) (h26 : ∀ hB hO r_ outA outN outC k σ, r26 hB hO r_ outA outN outC k σ → corralref18_Home_Take.S26 K hB hO r_ outA outN outC k σ) (hB hO : Nat) (r_ : Int) (outA : Option Addr) (outN outC : Nat) (k : Int) (t152 : Bool) (σ : Store) (h : corralref18_Home_Take.j29 K r26 hB hO r_ outA outN outC k t152 σ) : corralref18_Home_Take.S29 K hB hO r_ outA outN outC k t152 σ := by
  rw [← corralref18_Home_Take.j29_eq] at h
  exact seg_snd Pr_mixed (hsel_sound fun x hx => by
    simp only [List.mem_cons, List.not_mem_nil, or_false] at hx
    rcases hx with rfl | rfl
    · exact corralref18_Home_Take.d30_ok fun _ _ _ _ _ _ _ _ h => corralref18_Home_Take.j30_ok K r26 h26 _ _ _ _ _ _ _ _ h
    · exact corralref18_Home_Take.d26_ok h26) h
noncomputable def corralref18_Home_Take.h35 (K : Value → Store → Prop) : Hand := hsel []
theorem corralref18_Home_Take.j35_eq (K : Value → Store → Prop) (hB hO : Nat) (outA : Option Addr) (outN outC : Nat) (σ : Store) : (seg Pr corralref18_Home_Take.H F.corralref18_Home_Take corralref18_Home_Take.T (corralref18_Home_Take.h35 K ) K (corralref18_Home_Take.T 35) (Ev.cutE corralref18_Home_Take.H 35 [.v (.pointer (some ⟨hB, hO, none⟩)), .v (.slice outA outN outC)] []) σ) = corralref18_Home_Take.j35 K hB hO outA outN outC σ := by kernel_rfl
theorem corralref18_Home_Take.j35_ok (K : Value → Store → Prop) (hB hO : Nat) (outA : Option Addr) (outN outC : Nat) (σ : Store) (h : corralref18_Home_Take.j35 K hB hO outA outN outC σ) : corralref18_Home_Take.S35 K hB hO outA outN outC σ := by
  rw [← corralref18_Home_Take.j35_eq] at h
  exact seg_snd Pr_mixed (hsel_sound fun x hx => by
    cases hx) h
noncomputable def corralref18_Home_Take.h33 (K : Value → Store → Prop) : Hand := hsel [(35, corralref18_Home_Take.d35 (corralref18_Home_Take.j35 K ))]
theorem corralref18_Home_Take.j33_eq (K : Value → Store → Prop) (hB hO : Nat) (outA : Option Addr) (outN outC : Nat) (σ : Store) : (seg Pr corralref18_Home_Take.H F.corralref18_Home_Take corralref18_Home_Take.T (corralref18_Home_Take.h33 K ) K (corralref18_Home_Take.T 33) (Ev.cutE corralref18_Home_Take.H 33 [.v (.pointer (some ⟨hB, hO, none⟩)), .v (.slice outA outN outC)] []) σ) = corralref18_Home_Take.j33 K hB hO outA outN outC σ := by kernel_rfl
theorem corralref18_Home_Take.j33_ok (K : Value → Store → Prop) (hB hO : Nat) (outA : Option Addr) (outN outC : Nat) (σ : Store) (h : corralref18_Home_Take.j33 K hB hO outA outN outC σ) : corralref18_Home_Take.S33 K hB hO outA outN outC σ := by
  rw [← corralref18_Home_Take.j33_eq] at h
  exact seg_snd Pr_mixed (hsel_sound fun x hx => by
    simp only [List.mem_cons, List.not_mem_nil, or_false] at hx
    subst hx
    exact corralref18_Home_Take.d35_ok fun _ _ _ _ _ _ h => corralref18_Home_Take.j35_ok K _ _ _ _ _ _ h) h
noncomputable def corralref18_Home_Take.h26 (K : Value → Store → Prop) (r26 : corralref18_Home_Take.R26) : Hand := hsel [(29, corralref18_Home_Take.d29 (corralref18_Home_Take.j29 K r26)), (33, corralref18_Home_Take.d33 (corralref18_Home_Take.j33 K )), (26, corralref18_Home_Take.d26 r26)]
theorem corralref18_Home_Take.b26_eq (K : Value → Store → Prop) (r26 : corralref18_Home_Take.R26) (hB hO : Nat) (r_ : Int) (outA : Option Addr) (outN outC : Nat) (k : Int) (σ : Store) : (seg Pr corralref18_Home_Take.H F.corralref18_Home_Take corralref18_Home_Take.T (corralref18_Home_Take.h26 K r26) K (corralref18_Home_Take.T 26) (Ev.cutE corralref18_Home_Take.H 26 [.v (.pointer (some ⟨hB, hO, none⟩)), .v (.int .i64 r_), .v (.slice outA outN outC), .v (.int .i64 k)] []) σ) = corralref18_Home_Take.b26 K r26 hB hO r_ outA outN outC k σ := by kernel_rfl
theorem corralref18_Home_Take.b26_ok (K : Value → Store → Prop) (r26 : corralref18_Home_Take.R26) (h26 : ∀ hB hO r_ outA outN outC k σ, r26 hB hO r_ outA outN outC k σ → corralref18_Home_Take.S26 K hB hO r_ outA outN outC k σ) (hB hO : Nat) (r_ : Int) (outA : Option Addr) (outN outC : Nat) (k : Int) (σ : Store) (h : corralref18_Home_Take.b26 K r26 hB hO r_ outA outN outC k σ) : corralref18_Home_Take.S26 K hB hO r_ outA outN outC k σ := by
  rw [← corralref18_Home_Take.b26_eq] at h
  exact seg_snd Pr_mixed (hsel_sound fun x hx => by
    simp only [List.mem_cons, List.not_mem_nil, or_false] at hx
    rcases hx with rfl | rfl | rfl
    · exact corralref18_Home_Take.d29_ok fun _ _ _ _ _ _ _ _ _ h => corralref18_Home_Take.j29_ok K r26 h26 _ _ _ _ _ _ _ _ _ h
    · exact corralref18_Home_Take.d33_ok fun _ _ _ _ _ _ h => corralref18_Home_Take.j33_ok K _ _ _ _ _ _ h
    · exact corralref18_Home_Take.d26_ok h26) h
theorem corralref18_Home_Take.l26_ok (K : Value → Store → Prop) : ∀ (n : Nat) (hB hO : Nat) (r_ : Int) (outA : Option Addr) (outN outC : Nat) (k : Int) (σ : Store), corralref18_Home_Take.l26 K n hB hO r_ outA outN outC k σ → corralref18_Home_Take.S26 K hB hO r_ outA outN outC k σ
  | 0, _, _, _, _, _, _, _, _, h => h.elim
  | n + 1, _, _, _, _, _, _, _, _, h => corralref18_Home_Take.b26_ok K (corralref18_Home_Take.l26 K n) (corralref18_Home_Take.l26_ok K n) _ _ _ _ _ _ _ _ h
noncomputable def corralref18_Home_Take.h43 (K : Value → Store → Prop) : Hand := hsel []
theorem corralref18_Home_Take.j43_eq (K : Value → Store → Prop) (hB hO : Nat) (r_ : Int) (σ : Store) : (seg Pr corralref18_Home_Take.H F.corralref18_Home_Take corralref18_Home_Take.T (corralref18_Home_Take.h43 K ) K (corralref18_Home_Take.T 43) (Ev.cutE corralref18_Home_Take.H 43 [.v (.pointer (some ⟨hB, hO, none⟩)), .v (.int .i64 r_)] []) σ) = corralref18_Home_Take.j43 K hB hO r_ σ := by kernel_rfl
theorem corralref18_Home_Take.j43_ok (K : Value → Store → Prop) (hB hO : Nat) (r_ : Int) (σ : Store) (h : corralref18_Home_Take.j43 K hB hO r_ σ) : corralref18_Home_Take.S43 K hB hO r_ σ := by
  rw [← corralref18_Home_Take.j43_eq] at h
  exact seg_snd Pr_mixed (hsel_sound fun x hx => by
    cases hx) h
noncomputable def corralref18_Home_Take.h42 (K : Value → Store → Prop) : Hand := hsel [(43, corralref18_Home_Take.d43 (corralref18_Home_Take.j43 K ))]
theorem corralref18_Home_Take.j42_eq (K : Value → Store → Prop) (hB hO : Nat) (r_ : Int) (σ : Store) : (seg Pr corralref18_Home_Take.H F.corralref18_Home_Take corralref18_Home_Take.T (corralref18_Home_Take.h42 K ) K (corralref18_Home_Take.T 42) (Ev.cutE corralref18_Home_Take.H 42 [.v (.pointer (some ⟨hB, hO, none⟩)), .v (.int .i64 r_)] []) σ) = corralref18_Home_Take.j42 K hB hO r_ σ := by kernel_rfl
theorem corralref18_Home_Take.j42_ok (K : Value → Store → Prop) (hB hO : Nat) (r_ : Int) (σ : Store) (h : corralref18_Home_Take.j42 K hB hO r_ σ) : corralref18_Home_Take.S42 K hB hO r_ σ := by
  rw [← corralref18_Home_Take.j42_eq] at h
  exact seg_snd Pr_mixed (hsel_sound fun x hx => by
    simp only [List.mem_cons, List.not_mem_nil, or_false] at hx
    subst hx
    exact corralref18_Home_Take.d43_ok fun _ _ _ _ h => corralref18_Home_Take.j43_ok K _ _ _ _ h) h
noncomputable def corralref18_Home_Take.h65 (K : Value → Store → Prop) : Hand := hsel []
theorem corralref18_Home_Take.j65_eq (K : Value → Store → Prop) (hB hO : Nat) (σ : Store) : (seg Pr corralref18_Home_Take.H F.corralref18_Home_Take corralref18_Home_Take.T (corralref18_Home_Take.h65 K ) K (corralref18_Home_Take.T 65) (Ev.cutE corralref18_Home_Take.H 65 [.v (.pointer (some ⟨hB, hO, none⟩))] []) σ) = corralref18_Home_Take.j65 K hB hO σ := by kernel_rfl
theorem corralref18_Home_Take.j65_ok (K : Value → Store → Prop) (hB hO : Nat) (σ : Store) (h : corralref18_Home_Take.j65 K hB hO σ) : corralref18_Home_Take.S65 K hB hO σ := by
  rw [← corralref18_Home_Take.j65_eq] at h
  exact seg_snd Pr_mixed (hsel_sound fun x hx => by
    cases hx) h
noncomputable def corralref18_Home_Take.h (K : Value → Store → Prop) : Hand := hsel [(8, corralref18_Home_Take.d8 (corralref18_Home_Take.j8 K )), (26, corralref18_Home_Take.d26 fun hB hO r_ outA outN outC k σ => ∃ n : Nat, corralref18_Home_Take.l26 K n hB hO r_ outA outN outC k σ), (42, corralref18_Home_Take.d42 (corralref18_Home_Take.j42 K )), (43, corralref18_Home_Take.d43 (corralref18_Home_Take.j43 K )), (65, corralref18_Home_Take.d65 (corralref18_Home_Take.j65 K ))]
theorem corralref18_Home_Take.m_eq (K : Value → Store → Prop) (hB hO : Nat) (m0 m1 m2 m3 m4 m5 m6 m7 : Int) (m8 m9 m10 : Bool) (σ : Store) : (segF Pr corralref18_Home_Take.H F.corralref18_Home_Take corralref18_Home_Take.T (corralref18_Home_Take.h K) K [.pointer (some ⟨hB, hO, none⟩), .agg #[.int .i64 m0, .int .i64 m1, .int .i64 m2, .int .i64 m3, .int .u32 m4, .int .u32 m5, .int .u32 m6, .int .u32 m7, .bool m8, .bool m9, .bool m10]] σ) = corralref18_Home_Take.m K hB hO m0 m1 m2 m3 m4 m5 m6 m7 m8 m9 m10 σ := by kernel_rfl
theorem corralref18_Home_Take.ok {K : Value → Store → Prop} {hB hO : Nat} {m0 m1 m2 m3 m4 m5 m6 m7 : Int} {m8 m9 m10 : Bool} {σ : Store} (h : corralref18_Home_Take.m K hB hO m0 m1 m2 m3 m4 m5 m6 m7 m8 m9 m10 σ) : Spec Pr F.corralref18_Home_Take [.pointer (some ⟨hB, hO, none⟩), .agg #[.int .i64 m0, .int .i64 m1, .int .i64 m2, .int .i64 m3, .int .u32 m4, .int .u32 m5, .int .u32 m6, .int .u32 m7, .bool m8, .bool m9, .bool m10]] σ K := by
  rw [← corralref18_Home_Take.m_eq] at h
  exact segF_spec Pr_mixed (hsel_sound fun x hx => by
    simp only [List.mem_cons, List.not_mem_nil, or_false] at hx
    rcases hx with rfl | rfl | rfl | rfl | rfl
    · exact corralref18_Home_Take.d8_ok fun _ _ _ _ _ h => corralref18_Home_Take.j8_ok K _ _ _ _ _ h
    · exact corralref18_Home_Take.d26_ok fun _ _ _ _ _ _ _ _ ⟨n, h⟩ => corralref18_Home_Take.l26_ok K n _ _ _ _ _ _ _ _ h
    · exact corralref18_Home_Take.d42_ok fun _ _ _ _ h => corralref18_Home_Take.j42_ok K _ _ _ _ h
    · exact corralref18_Home_Take.d43_ok fun _ _ _ _ h => corralref18_Home_Take.j43_ok K _ _ _ _ h
    · exact corralref18_Home_Take.d65_ok fun _ _ _ h => corralref18_Home_Take.j65_ok K _ _ _ h) h

/-! ### corral/corralref.SameMsgs -/
def corralref_SameMsgs.H : Hints := { esc := [], cuts := [(4, [0, 1, 5], []), (9, [], [])] }
noncomputable def corralref_SameMsgs.T : Nat → List Item := stk Pr F.corralref_SameMsgs [(4, [1, 1, 0, 1, 0, 0]), (9, [1, 1, 1])]
abbrev corralref_SameMsgs.R9 : Type := Store → Prop
abbrev corralref_SameMsgs.R4 : Type := Option Addr → Nat → Nat → Option Addr → Nat → Nat → Int → Store → Prop
def corralref_SameMsgs.d9 (g : corralref_SameMsgs.R9) : List AV → List (List Value) → Store → Prop
  | [], [], σ => g σ
  | _, _, _ => False
def corralref_SameMsgs.S9 (K : Value → Store → Prop) (σ : Store) : Prop := SndF Pr F.corralref_SameMsgs corralref_SameMsgs.H corralref_SameMsgs.T K 9 [] [] σ
def corralref_SameMsgs.j9 (K : Value → Store → Prop) (σ : Store) : Prop :=
  K (.bool true) σ
def corralref_SameMsgs.d4 (g : corralref_SameMsgs.R4) : List AV → List (List Value) → Store → Prop
  | [.v (.slice aA aN aC), .v (.slice bA bN bC), .v (.int .i64 i)], [], σ => g aA aN aC bA bN bC i σ
  | _, _, _ => False
def corralref_SameMsgs.S4 (K : Value → Store → Prop) (aA : Option Addr) (aN aC : Nat) (bA : Option Addr) (bN bC : Nat) (i : Int) (σ : Store) : Prop := SndF Pr F.corralref_SameMsgs corralref_SameMsgs.H corralref_SameMsgs.T K 4 [.v (.slice aA aN aC), .v (.slice bA bN bC), .v (.int .i64 i)] [] σ
def corralref_SameMsgs.b4 (K : Value → Store → Prop) (r4 : corralref_SameMsgs.R4) (aA : Option Addr) (aN aC : Nat) (bA : Option Addr) (bN bC : Nat) (i : Int) (σ : Store) : Prop :=
  cond (decide (i < ((aN : Nat) : Int)))
  (Req (decide (0 ≤ i) && decide (i < ((aN : Nat) : Int))) (
      PtrNN aA fun t20B t20O =>
      ∃ t210 : Int, ∃ t211 : Int, ∃ t212 : Int, ∃ t213 : Int, ∃ t214 : Int, ∃ t215 : Int, ∃ t216 : Int, ∃ t217 : Int, ∃ t218 : Bool, ∃ t219 : Bool, ∃ t2110 : Bool, cellsAt σ t20B (t20O + i.toNat * 11) 11 = some [.int .i64 t210, .int .i64 t211, .int .i64 t212, .int .i64 t213, .int .u32 t214, .int .u32 t215, .int .u32 t216, .int .u32 t217, .bool t218, .bool t219, .bool t2110] ∧
      Req (decide (0 ≤ i) && decide (i < ((bN : Nat) : Int))) (
        PtrNN bA fun t24B t24O =>
        ∃ t250 : Int, ∃ t251 : Int, ∃ t252 : Int, ∃ t253 : Int, ∃ t254 : Int, ∃ t255 : Int, ∃ t256 : Int, ∃ t257 : Int, ∃ t258 : Bool, ∃ t259 : Bool, ∃ t2510 : Bool, cellsAt σ t24B (t24O + i.toNat * 11) 11 = some [.int .i64 t250, .int .i64 t251, .int .i64 t252, .int .i64 t253, .int .u32 t254, .int .u32 t255, .int .u32 t256, .int .u32 t257, .bool t258, .bool t259, .bool t2510] ∧
        Spec Pr F.corralref_SameMsg [.agg #[.int .i64 t210, .int .i64 t211, .int .i64 t212, .int .i64 t213, .int .u32 t214, .int .u32 t215, .int .u32 t216, .int .u32 t217, .bool t218, .bool t219, .bool t2110], .agg #[.int .i64 t250, .int .i64 t251, .int .i64 t252, .int .i64 t253, .int .u32 t254, .int .u32 t255, .int .u32 t256, .int .u32 t257, .bool t258, .bool t259, .bool t2510]] σ fun v σ_ => ∃ t26 : Bool, v = .bool t26 ∧
        cond (!t26)
        (K (.bool false) σ_)
        (Hop (corralref_SameMsgs.T 4) (corralref_SameMsgs.T 4) (r4 aA aN aC bA bN bC (IntKind.wrap .i64 (i + 1)) σ_)))))
  (Hop (corralref_SameMsgs.T 9) (corralref_SameMsgs.T 9) (corralref_SameMsgs.j9 K σ))
def corralref_SameMsgs.l4 (K : Value → Store → Prop) : Nat → corralref_SameMsgs.R4
  | 0, _, _, _, _, _, _, _, _ => False
  | n + 1, aA, aN, aC, bA, bN, bC, i, σ => corralref_SameMsgs.b4 K (corralref_SameMsgs.l4 K n) aA aN aC bA bN bC i σ
def corralref_SameMsgs.m (K : Value → Store → Prop) (aA : Option Addr) (aN aC : Nat) (bA : Option Addr) (bN bC : Nat) (σ : Store) : Prop :=
  cond (((aN : Nat) : Int) != ((bN : Nat) : Int))
  (K (.bool false) σ)
  (Hop (corralref_SameMsgs.T 4) (corralref_SameMsgs.T 4) (∃ n : Nat, corralref_SameMsgs.l4 K n aA aN aC bA bN bC 0 σ))
theorem corralref_SameMsgs.d9_ok {K : Value → Store → Prop} {g : corralref_SameMsgs.R9} (hg : ∀ σ, g σ → corralref_SameMsgs.S9 K σ) (vs : List AV) (bs : List (List Value)) (σ : Store) (h : corralref_SameMsgs.d9 g vs bs σ) : SndF Pr F.corralref_SameMsgs corralref_SameMsgs.H corralref_SameMsgs.T K 9 vs bs σ := by
  unfold corralref_SameMsgs.d9 at h
  split at h
  · exact hg _ h
  · exact h.elim
theorem corralref_SameMsgs.d4_ok {K : Value → Store → Prop} {g : corralref_SameMsgs.R4} (hg : ∀ aA aN aC bA bN bC i σ, g aA aN aC bA bN bC i σ → corralref_SameMsgs.S4 K aA aN aC bA bN bC i σ) (vs : List AV) (bs : List (List Value)) (σ : Store) (h : corralref_SameMsgs.d4 g vs bs σ) : SndF Pr F.corralref_SameMsgs corralref_SameMsgs.H corralref_SameMsgs.T K 4 vs bs σ := by
  unfold corralref_SameMsgs.d4 at h
  split at h
  · exact hg _ _ _ _ _ _ _ _ h
  · exact h.elim
noncomputable def corralref_SameMsgs.h9 (K : Value → Store → Prop) : Hand := hsel []
theorem corralref_SameMsgs.j9_eq (K : Value → Store → Prop) (σ : Store) : (seg Pr corralref_SameMsgs.H F.corralref_SameMsgs corralref_SameMsgs.T (corralref_SameMsgs.h9 K ) K (corralref_SameMsgs.T 9) (Ev.cutE corralref_SameMsgs.H 9 [] []) σ) = corralref_SameMsgs.j9 K σ := by kernel_rfl
theorem corralref_SameMsgs.j9_ok (K : Value → Store → Prop) (σ : Store) (h : corralref_SameMsgs.j9 K σ) : corralref_SameMsgs.S9 K σ := by
  rw [← corralref_SameMsgs.j9_eq] at h
  exact seg_snd Pr_mixed (hsel_sound fun x hx => by
    cases hx) h
noncomputable def corralref_SameMsgs.h4 (K : Value → Store → Prop) (r4 : corralref_SameMsgs.R4) : Hand := hsel [(9, corralref_SameMsgs.d9 (corralref_SameMsgs.j9 K )), (4, corralref_SameMsgs.d4 r4)]
theorem corralref_SameMsgs.b4_eq (K : Value → Store → Prop) (r4 : corralref_SameMsgs.R4) (aA : Option Addr) (aN aC : Nat) (bA : Option Addr) (bN bC : Nat) (i : Int) (σ : Store) : (seg Pr corralref_SameMsgs.H F.corralref_SameMsgs corralref_SameMsgs.T (corralref_SameMsgs.h4 K r4) K (corralref_SameMsgs.T 4) (Ev.cutE corralref_SameMsgs.H 4 [.v (.slice aA aN aC), .v (.slice bA bN bC), .v (.int .i64 i)] []) σ) = corralref_SameMsgs.b4 K r4 aA aN aC bA bN bC i σ := by kernel_rfl
theorem corralref_SameMsgs.b4_ok (K : Value → Store → Prop) (r4 : corralref_SameMsgs.R4) (h4 : ∀ aA aN aC bA bN bC i σ, r4 aA aN aC bA bN bC i σ → corralref_SameMsgs.S4 K aA aN aC bA bN bC i σ) (aA : Option Addr) (aN aC : Nat) (bA : Option Addr) (bN bC : Nat) (i : Int) (σ : Store) (h : corralref_SameMsgs.b4 K r4 aA aN aC bA bN bC i σ) : corralref_SameMsgs.S4 K aA aN aC bA bN bC i σ := by
  rw [← corralref_SameMsgs.b4_eq] at h
  exact seg_snd Pr_mixed (hsel_sound fun x hx => by
    simp only [List.mem_cons, List.not_mem_nil, or_false] at hx
    rcases hx with rfl | rfl
    · exact corralref_SameMsgs.d9_ok fun _ h => corralref_SameMsgs.j9_ok K _ h
    · exact corralref_SameMsgs.d4_ok h4) h
theorem corralref_SameMsgs.l4_ok (K : Value → Store → Prop) : ∀ (n : Nat) (aA : Option Addr) (aN aC : Nat) (bA : Option Addr) (bN bC : Nat) (i : Int) (σ : Store), corralref_SameMsgs.l4 K n aA aN aC bA bN bC i σ → corralref_SameMsgs.S4 K aA aN aC bA bN bC i σ
  | 0, _, _, _, _, _, _, _, _, h => h.elim
  | n + 1, _, _, _, _, _, _, _, _, h => corralref_SameMsgs.b4_ok K (corralref_SameMsgs.l4 K n) (corralref_SameMsgs.l4_ok K n) _ _ _ _ _ _ _ _ h
noncomputable def corralref_SameMsgs.h (K : Value → Store → Prop) : Hand := hsel [(4, corralref_SameMsgs.d4 fun aA aN aC bA bN bC i σ => ∃ n : Nat, corralref_SameMsgs.l4 K n aA aN aC bA bN bC i σ)]
theorem corralref_SameMsgs.m_eq (K : Value → Store → Prop) (aA : Option Addr) (aN aC : Nat) (bA : Option Addr) (bN bC : Nat) (σ : Store) : (segF Pr corralref_SameMsgs.H F.corralref_SameMsgs corralref_SameMsgs.T (corralref_SameMsgs.h K) K [.slice aA aN aC, .slice bA bN bC] σ) = corralref_SameMsgs.m K aA aN aC bA bN bC σ := by kernel_rfl
theorem corralref_SameMsgs.ok {K : Value → Store → Prop} {aA : Option Addr} {aN aC : Nat} {bA : Option Addr} {bN bC : Nat} {σ : Store} (h : corralref_SameMsgs.m K aA aN aC bA bN bC σ) : Spec Pr F.corralref_SameMsgs [.slice aA aN aC, .slice bA bN bC] σ K := by
  rw [← corralref_SameMsgs.m_eq] at h
  exact segF_spec Pr_mixed (hsel_sound fun x hx => by
    simp only [List.mem_cons, List.not_mem_nil, or_false] at hx
    subst hx
    exact corralref_SameMsgs.d4_ok fun _ _ _ _ _ _ _ _ ⟨n, h⟩ => corralref_SameMsgs.l4_ok K n _ _ _ _ _ _ _ _ h) h

/-! ### corral/corralref.SameInts -/
def corralref_SameInts.H : Hints := { esc := [], cuts := [(4, [0, 1, 5], []), (9, [], [])] }
noncomputable def corralref_SameInts.T : Nat → List Item := stk Pr F.corralref_SameInts [(4, [1, 1, 0, 1, 0, 0]), (9, [1, 1, 1])]
abbrev corralref_SameInts.R9 : Type := Store → Prop
abbrev corralref_SameInts.R4 : Type := Option Addr → Nat → Nat → Option Addr → Nat → Nat → Int → Store → Prop
def corralref_SameInts.d9 (g : corralref_SameInts.R9) : List AV → List (List Value) → Store → Prop
  | [], [], σ => g σ
  | _, _, _ => False
def corralref_SameInts.S9 (K : Value → Store → Prop) (σ : Store) : Prop := SndF Pr F.corralref_SameInts corralref_SameInts.H corralref_SameInts.T K 9 [] [] σ
def corralref_SameInts.j9 (K : Value → Store → Prop) (σ : Store) : Prop :=
  K (.bool true) σ
def corralref_SameInts.d4 (g : corralref_SameInts.R4) : List AV → List (List Value) → Store → Prop
  | [.v (.slice aA aN aC), .v (.slice bA bN bC), .v (.int .i64 i)], [], σ => g aA aN aC bA bN bC i σ
  | _, _, _ => False
def corralref_SameInts.S4 (K : Value → Store → Prop) (aA : Option Addr) (aN aC : Nat) (bA : Option Addr) (bN bC : Nat) (i : Int) (σ : Store) : Prop := SndF Pr F.corralref_SameInts corralref_SameInts.H corralref_SameInts.T K 4 [.v (.slice aA aN aC), .v (.slice bA bN bC), .v (.int .i64 i)] [] σ
def corralref_SameInts.b4 (K : Value → Store → Prop) (r4 : corralref_SameInts.R4) (aA : Option Addr) (aN aC : Nat) (bA : Option Addr) (bN bC : Nat) (i : Int) (σ : Store) : Prop :=
  cond (decide (i < ((aN : Nat) : Int)))
  (Req (decide (0 ≤ i) && decide (i < ((aN : Nat) : Int))) (
      PtrNN aA fun t20B t20O =>
      ∃ t21 : Int, cellAt σ t20B (t20O + i.toNat * 1) = some (.int .i64 t21) ∧
      Req (decide (0 ≤ i) && decide (i < ((bN : Nat) : Int))) (
        PtrNN bA fun t24B t24O =>
        ∃ t25 : Int, cellAt σ t24B (t24O + i.toNat * 1) = some (.int .i64 t25) ∧
        cond (!(t21 == t25))
        (K (.bool false) σ)
        (Hop (corralref_SameInts.T 4) (corralref_SameInts.T 4) (r4 aA aN aC bA bN bC (IntKind.wrap .i64 (i + 1)) σ)))))
  (Hop (corralref_SameInts.T 9) (corralref_SameInts.T 9) (corralref_SameInts.j9 K σ))
def corralref_SameInts.l4 (K : Value → Store → Prop) : Nat → corralref_SameInts.R4
  | 0, _, _, _, _, _, _, _, _ => False
  | n + 1, aA, aN, aC, bA, bN, bC, i, σ => corralref_SameInts.b4 K (corralref_SameInts.l4 K n) aA aN aC bA bN bC i σ
def corralref_SameInts.m (K : Value → Store → Prop) (aA : Option Addr) (aN aC : Nat) (bA : Option Addr) (bN bC : Nat) (σ : Store) : Prop :=
  cond (((aN : Nat) : Int) != ((bN : Nat) : Int))
  (K (.bool false) σ)
  (Hop (corralref_SameInts.T 4) (corralref_SameInts.T 4) (∃ n : Nat, corralref_SameInts.l4 K n aA aN aC bA bN bC 0 σ))
theorem corralref_SameInts.d9_ok {K : Value → Store → Prop} {g : corralref_SameInts.R9} (hg : ∀ σ, g σ → corralref_SameInts.S9 K σ) (vs : List AV) (bs : List (List Value)) (σ : Store) (h : corralref_SameInts.d9 g vs bs σ) : SndF Pr F.corralref_SameInts corralref_SameInts.H corralref_SameInts.T K 9 vs bs σ := by
  unfold corralref_SameInts.d9 at h
  split at h
  · exact hg _ h
  · exact h.elim
theorem corralref_SameInts.d4_ok {K : Value → Store → Prop} {g : corralref_SameInts.R4} (hg : ∀ aA aN aC bA bN bC i σ, g aA aN aC bA bN bC i σ → corralref_SameInts.S4 K aA aN aC bA bN bC i σ) (vs : List AV) (bs : List (List Value)) (σ : Store) (h : corralref_SameInts.d4 g vs bs σ) : SndF Pr F.corralref_SameInts corralref_SameInts.H corralref_SameInts.T K 4 vs bs σ := by
  unfold corralref_SameInts.d4 at h
  split at h
  · exact hg _ _ _ _ _ _ _ _ h
  · exact h.elim
noncomputable def corralref_SameInts.h9 (K : Value → Store → Prop) : Hand := hsel []
theorem corralref_SameInts.j9_eq (K : Value → Store → Prop) (σ : Store) : (seg Pr corralref_SameInts.H F.corralref_SameInts corralref_SameInts.T (corralref_SameInts.h9 K ) K (corralref_SameInts.T 9) (Ev.cutE corralref_SameInts.H 9 [] []) σ) = corralref_SameInts.j9 K σ := by kernel_rfl
theorem corralref_SameInts.j9_ok (K : Value → Store → Prop) (σ : Store) (h : corralref_SameInts.j9 K σ) : corralref_SameInts.S9 K σ := by
  rw [← corralref_SameInts.j9_eq] at h
  exact seg_snd Pr_mixed (hsel_sound fun x hx => by
    cases hx) h
noncomputable def corralref_SameInts.h4 (K : Value → Store → Prop) (r4 : corralref_SameInts.R4) : Hand := hsel [(9, corralref_SameInts.d9 (corralref_SameInts.j9 K )), (4, corralref_SameInts.d4 r4)]
theorem corralref_SameInts.b4_eq (K : Value → Store → Prop) (r4 : corralref_SameInts.R4) (aA : Option Addr) (aN aC : Nat) (bA : Option Addr) (bN bC : Nat) (i : Int) (σ : Store) : (seg Pr corralref_SameInts.H F.corralref_SameInts corralref_SameInts.T (corralref_SameInts.h4 K r4) K (corralref_SameInts.T 4) (Ev.cutE corralref_SameInts.H 4 [.v (.slice aA aN aC), .v (.slice bA bN bC), .v (.int .i64 i)] []) σ) = corralref_SameInts.b4 K r4 aA aN aC bA bN bC i σ := by kernel_rfl
theorem corralref_SameInts.b4_ok (K : Value → Store → Prop) (r4 : corralref_SameInts.R4) (h4 : ∀ aA aN aC bA bN bC i σ, r4 aA aN aC bA bN bC i σ → corralref_SameInts.S4 K aA aN aC bA bN bC i σ) (aA : Option Addr) (aN aC : Nat) (bA : Option Addr) (bN bC : Nat) (i : Int) (σ : Store) (h : corralref_SameInts.b4 K r4 aA aN aC bA bN bC i σ) : corralref_SameInts.S4 K aA aN aC bA bN bC i σ := by
  rw [← corralref_SameInts.b4_eq] at h
  exact seg_snd Pr_mixed (hsel_sound fun x hx => by
    simp only [List.mem_cons, List.not_mem_nil, or_false] at hx
    rcases hx with rfl | rfl
    · exact corralref_SameInts.d9_ok fun _ h => corralref_SameInts.j9_ok K _ h
    · exact corralref_SameInts.d4_ok h4) h
theorem corralref_SameInts.l4_ok (K : Value → Store → Prop) : ∀ (n : Nat) (aA : Option Addr) (aN aC : Nat) (bA : Option Addr) (bN bC : Nat) (i : Int) (σ : Store), corralref_SameInts.l4 K n aA aN aC bA bN bC i σ → corralref_SameInts.S4 K aA aN aC bA bN bC i σ
  | 0, _, _, _, _, _, _, _, _, h => h.elim
  | n + 1, _, _, _, _, _, _, _, _, h => corralref_SameInts.b4_ok K (corralref_SameInts.l4 K n) (corralref_SameInts.l4_ok K n) _ _ _ _ _ _ _ _ h
noncomputable def corralref_SameInts.h (K : Value → Store → Prop) : Hand := hsel [(4, corralref_SameInts.d4 fun aA aN aC bA bN bC i σ => ∃ n : Nat, corralref_SameInts.l4 K n aA aN aC bA bN bC i σ)]
theorem corralref_SameInts.m_eq (K : Value → Store → Prop) (aA : Option Addr) (aN aC : Nat) (bA : Option Addr) (bN bC : Nat) (σ : Store) : (segF Pr corralref_SameInts.H F.corralref_SameInts corralref_SameInts.T (corralref_SameInts.h K) K [.slice aA aN aC, .slice bA bN bC] σ) = corralref_SameInts.m K aA aN aC bA bN bC σ := by kernel_rfl
theorem corralref_SameInts.ok {K : Value → Store → Prop} {aA : Option Addr} {aN aC : Nat} {bA : Option Addr} {bN bC : Nat} {σ : Store} (h : corralref_SameInts.m K aA aN aC bA bN bC σ) : Spec Pr F.corralref_SameInts [.slice aA aN aC, .slice bA bN bC] σ K := by
  rw [← corralref_SameInts.m_eq] at h
  exact segF_spec Pr_mixed (hsel_sound fun x hx => by
    simp only [List.mem_cons, List.not_mem_nil, or_false] at hx
    subst hx
    exact corralref_SameInts.d4_ok fun _ _ _ _ _ _ _ _ ⟨n, h⟩ => corralref_SameInts.l4_ok K n _ _ _ _ _ _ _ _ h) h

end Go.Ev
