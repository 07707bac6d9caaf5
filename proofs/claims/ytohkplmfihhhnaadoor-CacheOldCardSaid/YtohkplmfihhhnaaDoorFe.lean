import Derived.Test.YtohkplmfihhhnaaDoorN
set_option linter.unusedVariables false
set_option maxRecDepth 100000
namespace Go.Ev
open Go
/-! ### corral/corralsee.sentinels -/
def corralsee_sentinels.H : Hints := { opq := [12], esc := [12], cuts := [] }
noncomputable def corralsee_sentinels.T : Nat → List Item := stk Pr F.corralsee_sentinels []
def corralsee_sentinels.m (K : Value → Store → Prop) (σ : Store) : Prop :=
  ∃ t1 : Value, cellAt σ 4 0 = some (t1) ∧
  ∃ t2 : Value, cellAt σ 0 0 = some (t2) ∧
  ∃ t3 : Value, cellAt σ 5 0 = some (t3) ∧
  ∃ t4 : Value, cellAt σ 2 0 = some (t4) ∧
  ∃ t5 : Value, cellAt σ 6 0 = some (t5) ∧
  ∃ t6 : Value, cellAt σ 1 0 = some (t6) ∧
  ∃ t7 : Value, cellAt σ 3 0 = some (t7) ∧
  ∃ t8 : Value, cellAt σ 7 0 = some (t8) ∧
  ∃ t9 : Value, cellAt σ 8 0 = some (t9) ∧
  ∃ t10 : Value, cellAt σ 9 0 = some (t10) ∧
  ∃ t11 : Value, cellAt σ 10 0 = some (t11) ∧
  Req (one (t1) && (one (t2) && (one (t3) && (one (t4) && (one (t5) && (one (t6) && (one (t7) && (one (t8) && (one (t9) && (one (t10) && (one (t11) && true))))))))))) (
    New σ ⟨29, [t1, t2, t3, t4, t5, t6, t7, t8, t9, t10, t11], (0, 0)⟩ fun t12B σ_ =>
    K (.slice (some ⟨t12B, 0, none⟩) 11 11) σ_)
noncomputable def corralsee_sentinels.h (K : Value → Store → Prop) : Hand := hsel []
theorem corralsee_sentinels.m_eq (K : Value → Store → Prop) (σ : Store) : (segF Pr corralsee_sentinels.H F.corralsee_sentinels corralsee_sentinels.T (corralsee_sentinels.h K) K [] σ) = corralsee_sentinels.m K σ := by kernel_rfl
theorem corralsee_sentinels.ok {K : Value → Store → Prop} {σ : Store} (h : corralsee_sentinels.m K σ) : Spec Pr F.corralsee_sentinels [] σ K := by
  rw [← corralsee_sentinels.m_eq] at h
  exact segF_spec Pr_mixed (hsel_sound fun x hx => by
    cases hx) h

/-! ### corral/corralsee.sentinel -/
def corralsee_sentinel.H : Hints := { esc := [], cuts := [(3, [0, 3, 4], []), (7, [], [])] }
noncomputable def corralsee_sentinel.T : Nat → List Item := stk Pr F.corralsee_sentinel [(3, [1, 1, 0, 1, 0, 0]), (7, [1, 1, 1])]
abbrev corralsee_sentinel.R7 : Type := Store → Prop
abbrev corralsee_sentinel.R3 : Type := Nat → Nat → Option Addr → Nat → Nat → Int → Store → Prop
def corralsee_sentinel.d7 (g : corralsee_sentinel.R7) : List AV → List (List Value) → Store → Prop
  | [], [], σ => g σ
  | _, _, _ => False
def corralsee_sentinel.S7 (K : Value → Store → Prop) (σ : Store) : Prop := SndF Pr F.corralsee_sentinel corralsee_sentinel.H corralsee_sentinel.T K 7 [] [] σ
def corralsee_sentinel.j7 (K : Value → Store → Prop) (σ : Store) : Prop :=
  K (.int .i64 (-1)) σ
def corralsee_sentinel.d3 (g : corralsee_sentinel.R3) : List AV → List (List Value) → Store → Prop
  | [.v (.iface 179 (.pointer (some ⟨eB, eO, none⟩))), .v (.slice lA lN lC), .v (.int .i64 i)], [], σ => g eB eO lA lN lC i σ
  | _, _, _ => False
def corralsee_sentinel.S3 (K : Value → Store → Prop) (eB eO : Nat) (lA : Option Addr) (lN lC : Nat) (i : Int) (σ : Store) : Prop := SndF Pr F.corralsee_sentinel corralsee_sentinel.H corralsee_sentinel.T K 3 [.v (.iface 179 (.pointer (some ⟨eB, eO, none⟩))), .v (.slice lA lN lC), .v (.int .i64 i)] [] σ
def corralsee_sentinel.b3 (K : Value → Store → Prop) (rr3 : corralsee_sentinel.R3) (eB eO : Nat) (lA : Option Addr) (lN lC : Nat) (i : Int) (σ : Store) : Prop :=
  cond (decide (i < ((lN : Nat) : Int)))
  (Req (decide (0 ≤ i) && decide (i < ((lN : Nat) : Int))) (
      PtrNN lA fun t15B t15O =>
      ∃ t16 : Value, cellAt σ t15B (t15O + i.toNat * 1) = some (t16) ∧
      Spec Pr F.corralsee_Alike [.iface 179 (.pointer (some ⟨eB, eO, none⟩)), t16] σ fun v σ_ => ∃ t17 : Bool, v = .bool t17 ∧
      cond t17
      (K (.int .i64 (IntKind.wrap .i64 (101 + i))) σ_)
      (Hop (corralsee_sentinel.T 3) (corralsee_sentinel.T 3) (rr3 eB eO lA lN lC (IntKind.wrap .i64 (i + 1)) σ_))))
  (Hop (corralsee_sentinel.T 7) (corralsee_sentinel.T 7) (corralsee_sentinel.j7 K σ))
def corralsee_sentinel.l3 (K : Value → Store → Prop) : Nat → corralsee_sentinel.R3
  | 0, _, _, _, _, _, _, _ => False
  | n + 1, eB, eO, lA, lN, lC, i, σ => corralsee_sentinel.b3 K (corralsee_sentinel.l3 K n) eB eO lA lN lC i σ
def corralsee_sentinel.m (K : Value → Store → Prop) (eB eO : Nat) (σ : Store) : Prop :=
  Spec Pr F.corralsee_sentinels [] σ fun v σ_ => ∃ t5A : Option Addr, ∃ t5N : Nat, ∃ t5C : Nat, v = .slice t5A t5N t5C ∧
  Hop (corralsee_sentinel.T 3) (corralsee_sentinel.T 3) (∃ n : Nat, corralsee_sentinel.l3 K n eB eO t5A t5N t5C 0 σ_)
theorem corralsee_sentinel.d7_ok {K : Value → Store → Prop} {g : corralsee_sentinel.R7} (hg : ∀ σ, g σ → corralsee_sentinel.S7 K σ) (vs : List AV) (bs : List (List Value)) (σ : Store) (h : corralsee_sentinel.d7 g vs bs σ) : SndF Pr F.corralsee_sentinel corralsee_sentinel.H corralsee_sentinel.T K 7 vs bs σ := by
  unfold corralsee_sentinel.d7 at h
  split at h
  · exact hg _ h
  · exact h.elim
theorem corralsee_sentinel.d3_ok {K : Value → Store → Prop} {g : corralsee_sentinel.R3} (hg : ∀ eB eO lA lN lC i σ, g eB eO lA lN lC i σ → corralsee_sentinel.S3 K eB eO lA lN lC i σ) (vs : List AV) (bs : List (List Value)) (σ : Store) (h : corralsee_sentinel.d3 g vs bs σ) : SndF Pr F.corralsee_sentinel corralsee_sentinel.H corralsee_sentinel.T K 3 vs bs σ := by
  unfold corralsee_sentinel.d3 at h
  split at h
  · exact hg _ _ _ _ _ _ _ h
  · exact h.elim
noncomputable def corralsee_sentinel.h7 (K : Value → Store → Prop) : Hand := hsel []
theorem corralsee_sentinel.j7_eq (K : Value → Store → Prop) (σ : Store) : (seg Pr corralsee_sentinel.H F.corralsee_sentinel corralsee_sentinel.T (corralsee_sentinel.h7 K ) K (corralsee_sentinel.T 7) (Ev.cutE corralsee_sentinel.H 7 [] []) σ) = corralsee_sentinel.j7 K σ := by kernel_rfl
theorem corralsee_sentinel.j7_ok (K : Value → Store → Prop) (σ : Store) (h : corralsee_sentinel.j7 K σ) : corralsee_sentinel.S7 K σ := by
  rw [← corralsee_sentinel.j7_eq] at h
  exact seg_snd Pr_mixed (hsel_sound fun x hx => by
    cases hx) h
noncomputable def corralsee_sentinel.h3 (K : Value → Store → Prop) (rr3 : corralsee_sentinel.R3) : Hand := hsel [(7, corralsee_sentinel.d7 (corralsee_sentinel.j7 K )), (3, corralsee_sentinel.d3 rr3)]
theorem corralsee_sentinel.b3_eq (K : Value → Store → Prop) (rr3 : corralsee_sentinel.R3) (eB eO : Nat) (lA : Option Addr) (lN lC : Nat) (i : Int) (σ : Store) : (seg Pr corralsee_sentinel.H F.corralsee_sentinel corralsee_sentinel.T (corralsee_sentinel.h3 K rr3) K (corralsee_sentinel.T 3) (Ev.cutE corralsee_sentinel.H 3 [.v (.iface 179 (.pointer (some ⟨eB, eO, none⟩))), .v (.slice lA lN lC), .v (.int .i64 i)] []) σ) = corralsee_sentinel.b3 K rr3 eB eO lA lN lC i σ := by kernel_rfl
theorem corralsee_sentinel.b3_ok (K : Value → Store → Prop) (rr3 : corralsee_sentinel.R3) (hh3 : ∀ eB eO lA lN lC i σ, rr3 eB eO lA lN lC i σ → corralsee_sentinel.S3 K eB eO lA lN lC i σ) (eB eO : Nat) (lA : Option Addr) (lN lC : Nat) (i : Int) (σ : Store) (h : corralsee_sentinel.b3 K rr3 eB eO lA lN lC i σ) : corralsee_sentinel.S3 K eB eO lA lN lC i σ := by
  rw [← corralsee_sentinel.b3_eq] at h
  exact seg_snd Pr_mixed (hsel_sound fun x hx => by
    simp only [List.mem_cons, List.not_mem_nil, or_false] at hx
    rcases hx with rfl | rfl
    · exact corralsee_sentinel.d7_ok fun _ h => corralsee_sentinel.j7_ok K _ h
    · exact corralsee_sentinel.d3_ok hh3) h
theorem corralsee_sentinel.l3_ok (K : Value → Store → Prop) : ∀ (n : Nat) (eB eO : Nat) (lA : Option Addr) (lN lC : Nat) (i : Int) (σ : Store), corralsee_sentinel.l3 K n eB eO lA lN lC i σ → corralsee_sentinel.S3 K eB eO lA lN lC i σ
  | 0, _, _, _, _, _, _, _, h => h.elim
  | n + 1, _, _, _, _, _, _, _, h => corralsee_sentinel.b3_ok K (corralsee_sentinel.l3 K n) (corralsee_sentinel.l3_ok K n) _ _ _ _ _ _ _ h
noncomputable def corralsee_sentinel.h (K : Value → Store → Prop) : Hand := hsel [(3, corralsee_sentinel.d3 fun eB eO lA lN lC i σ => ∃ n : Nat, corralsee_sentinel.l3 K n eB eO lA lN lC i σ)]
theorem corralsee_sentinel.m_eq (K : Value → Store → Prop) (eB eO : Nat) (σ : Store) : (segF Pr corralsee_sentinel.H F.corralsee_sentinel corralsee_sentinel.T (corralsee_sentinel.h K) K [.iface 179 (.pointer (some ⟨eB, eO, none⟩))] σ) = corralsee_sentinel.m K eB eO σ := by kernel_rfl
theorem corralsee_sentinel.ok {K : Value → Store → Prop} {eB eO : Nat} {σ : Store} (h : corralsee_sentinel.m K eB eO σ) : Spec Pr F.corralsee_sentinel [.iface 179 (.pointer (some ⟨eB, eO, none⟩))] σ K := by
  rw [← corralsee_sentinel.m_eq] at h
  exact segF_spec Pr_mixed (hsel_sound fun x hx => by
    simp only [List.mem_cons, List.not_mem_nil, or_false] at hx
    subst hx
    exact corralsee_sentinel.d3_ok fun _ _ _ _ _ _ _ ⟨n, h⟩ => corralsee_sentinel.l3_ok K n _ _ _ _ _ _ _ h) h

/-! ### corral/corralsee.fault -/
def corralsee_fault.H : Hints := { esc := [], cuts := [(3, [0, 1], [(4, 109)])] }
noncomputable def corralsee_fault.T : Nat → List Item := stk Pr F.corralsee_fault [(3, [1, 1])]
abbrev corralsee_fault.R3 : Type := Nat → Nat → Int → Int → Option Addr → Nat → Nat → Store → Prop
def corralsee_fault.d3 (g : corralsee_fault.R3) : List AV → List (List Value) → Store → Prop
  | [.v (.iface 179 (.pointer (some ⟨eB, eO, none⟩))), .v (.int .i64 left)], [[.int .i64 t40, .slice t41A t41N t41C]], σ => g eB eO left t40 t41A t41N t41C σ
  | _, _, _ => False
def corralsee_fault.S3 (K : Value → Store → Prop) (eB eO : Nat) (left t40 : Int) (t41A : Option Addr) (t41N t41C : Nat) (σ : Store) : Prop := SndF Pr F.corralsee_fault corralsee_fault.H corralsee_fault.T K 3 [.v (.iface 179 (.pointer (some ⟨eB, eO, none⟩))), .v (.int .i64 left)] [[.int .i64 t40, .slice t41A t41N t41C]] σ
def corralsee_fault.j3 (K : Value → Store → Prop) (eB eO : Nat) (left t40 : Int) (t41A : Option Addr) (t41N t41C : Nat) (σ : Store) : Prop :=
  Spec Pr F.corralsee_sentinel [.iface 179 (.pointer (some ⟨eB, eO, none⟩))] σ fun v σ_ => ∃ t40_1 : Int, v = .int .i64 t40_1 ∧
  Spec Pr F.corralref_Bare [.int .i64 t40_1] σ_ fun v1 σ_1 => ∃ t410 : Int, ∃ t411A : Option Addr, ∃ t411N : Nat, ∃ t411C : Nat, v1 = .agg #[.int .i64 t410, .slice t411A t411N t411C] ∧
  K (.agg #[.int .i64 t410, .slice t411A t411N t411C]) σ_1
def corralsee_fault.m (K : Value → Store → Prop) (eB eO : Nat) (left : Int) (σ : Store) : Prop :=
  cond (left == 0)
  (Spec Pr F.corralref_Bare [.int .i64 (-1)] σ fun v σ_ => ∃ t130 : Int, ∃ t131A : Option Addr, ∃ t131N : Nat, ∃ t131C : Nat, v = .agg #[.int .i64 t130, .slice t131A t131N t131C] ∧
    K (.agg #[.int .i64 t130, .slice t131A t131N t131C]) σ_)
  (Hop (corralsee_fault.T 3) (corralsee_fault.T 3) (corralsee_fault.j3 K eB eO left 0 none 0 0 σ))
theorem corralsee_fault.d3_ok {K : Value → Store → Prop} {g : corralsee_fault.R3} (hg : ∀ eB eO left t40 t41A t41N t41C σ, g eB eO left t40 t41A t41N t41C σ → corralsee_fault.S3 K eB eO left t40 t41A t41N t41C σ) (vs : List AV) (bs : List (List Value)) (σ : Store) (h : corralsee_fault.d3 g vs bs σ) : SndF Pr F.corralsee_fault corralsee_fault.H corralsee_fault.T K 3 vs bs σ := by
  unfold corralsee_fault.d3 at h
  split at h
  · exact hg _ _ _ _ _ _ _ _ h
  · exact h.elim
noncomputable def corralsee_fault.h3 (K : Value → Store → Prop) : Hand := hsel []
theorem corralsee_fault.j3_eq (K : Value → Store → Prop) (eB eO : Nat) (left t40 : Int) (t41A : Option Addr) (t41N t41C : Nat) (σ : Store) : (seg Pr corralsee_fault.H F.corralsee_fault corralsee_fault.T (corralsee_fault.h3 K ) K (corralsee_fault.T 3) (Ev.cutE corralsee_fault.H 3 [.v (.iface 179 (.pointer (some ⟨eB, eO, none⟩))), .v (.int .i64 left)] [[.int .i64 t40, .slice t41A t41N t41C]]) σ) = corralsee_fault.j3 K eB eO left t40 t41A t41N t41C σ := by kernel_rfl
theorem corralsee_fault.j3_ok (K : Value → Store → Prop) (eB eO : Nat) (left t40 : Int) (t41A : Option Addr) (t41N t41C : Nat) (σ : Store) (h : corralsee_fault.j3 K eB eO left t40 t41A t41N t41C σ) : corralsee_fault.S3 K eB eO left t40 t41A t41N t41C σ := by
  rw [← corralsee_fault.j3_eq] at h
  exact seg_snd Pr_mixed (hsel_sound fun x hx => by
    cases hx) h
noncomputable def corralsee_fault.h (K : Value → Store → Prop) : Hand := hsel [(3, corralsee_fault.d3 (corralsee_fault.j3 K ))]
theorem corralsee_fault.m_eq (K : Value → Store → Prop) (eB eO : Nat) (left : Int) (σ : Store) : (segF Pr corralsee_fault.H F.corralsee_fault corralsee_fault.T (corralsee_fault.h K) K [.iface 179 (.pointer (some ⟨eB, eO, none⟩)), .int .i64 left] σ) = corralsee_fault.m K eB eO left σ := by kernel_rfl
theorem corralsee_fault.ok {K : Value → Store → Prop} {eB eO : Nat} {left : Int} {σ : Store} (h : corralsee_fault.m K eB eO left σ) : Spec Pr F.corralsee_fault [.iface 179 (.pointer (some ⟨eB, eO, none⟩)), .int .i64 left] σ K := by
  rw [← corralsee_fault.m_eq] at h
  exact segF_spec Pr_mixed (hsel_sound fun x hx => by
    simp only [List.mem_cons, List.not_mem_nil, or_false] at hx
    subst hx
    exact corralsee_fault.d3_ok fun _ _ _ _ _ _ _ _ h => corralsee_fault.j3_ok K _ _ _ _ _ _ _ _ h) h

/-! ### corral/corralsee.Fault -/
def corralsee_Fault_n.H : Hints := { esc := [], cuts := [] }
noncomputable def corralsee_Fault_n.T : Nat → List Item := stk Pr F.corralsee_Fault []
def corralsee_Fault_n.m (K : Value → Store → Prop) (σ : Store) : Prop :=
  Spec Pr F.corralref_None [] σ fun v σ_ => ∃ t50 : Int, ∃ t51A : Option Addr, ∃ t51N : Nat, ∃ t51C : Nat, v = .agg #[.int .i64 t50, .slice t51A t51N t51C] ∧
  K (.agg #[.int .i64 t50, .slice t51A t51N t51C]) σ_
noncomputable def corralsee_Fault_n.h (K : Value → Store → Prop) : Hand := hsel []
theorem corralsee_Fault_n.m_eq (K : Value → Store → Prop) (σ : Store) : (segF Pr corralsee_Fault_n.H F.corralsee_Fault corralsee_Fault_n.T (corralsee_Fault_n.h K) K [.nilIface] σ) = corralsee_Fault_n.m K σ := by kernel_rfl
theorem corralsee_Fault_n.ok {K : Value → Store → Prop} {σ : Store} (h : corralsee_Fault_n.m K σ) : Spec Pr F.corralsee_Fault [.nilIface] σ K := by
  rw [← corralsee_Fault_n.m_eq] at h
  exact segF_spec Pr_mixed (hsel_sound fun x hx => by
    cases hx) h

/-! ### corral/corralsee.Fault -/
def corralsee_Fault_e.H : Hints := { esc := [], cuts := [] }
noncomputable def corralsee_Fault_e.T : Nat → List Item := stk Pr F.corralsee_Fault []
def corralsee_Fault_e.m (K : Value → Store → Prop) (eB eO : Nat) (σ : Store) : Prop :=
  Spec Pr F.corralsee_fault [.iface 179 (.pointer (some ⟨eB, eO, none⟩)), .int .i64 9] σ fun v σ_ => ∃ t70 : Int, ∃ t71A : Option Addr, ∃ t71N : Nat, ∃ t71C : Nat, v = .agg #[.int .i64 t70, .slice t71A t71N t71C] ∧
  K (.agg #[.int .i64 t70, .slice t71A t71N t71C]) σ_
noncomputable def corralsee_Fault_e.h (K : Value → Store → Prop) : Hand := hsel []
theorem corralsee_Fault_e.m_eq (K : Value → Store → Prop) (eB eO : Nat) (σ : Store) : (segF Pr corralsee_Fault_e.H F.corralsee_Fault corralsee_Fault_e.T (corralsee_Fault_e.h K) K [.iface 179 (.pointer (some ⟨eB, eO, none⟩))] σ) = corralsee_Fault_e.m K eB eO σ := by kernel_rfl
theorem corralsee_Fault_e.ok {K : Value → Store → Prop} {eB eO : Nat} {σ : Store} (h : corralsee_Fault_e.m K eB eO σ) : Spec Pr F.corralsee_Fault [.iface 179 (.pointer (some ⟨eB, eO, none⟩))] σ K := by
  rw [← corralsee_Fault_e.m_eq] at h
  exact segF_spec Pr_mixed (hsel_sound fun x hx => by
    cases hx) h

/-! ### corral/corralsee.Alike -/
def corralsee_Alike.H : Hints := { esc := [], cuts := [(2, [0, 1, 10], []), (3, [0, 1], [])] }
noncomputable def corralsee_Alike.T : Nat → List Item := stk Pr F.corralsee_Alike [(2, [1, 0, 1]), (3, [1, 1])]
abbrev corralsee_Alike.R3 : Type := Nat → Nat → Nat → Nat → Store → Prop
abbrev corralsee_Alike.R2 : Type := Nat → Nat → Nat → Nat → Bool → Store → Prop
def corralsee_Alike.d3 (g : corralsee_Alike.R3) : List AV → List (List Value) → Store → Prop
  | [.v (.iface 179 (.pointer (some ⟨aB, aO, none⟩))), .v (.iface 179 (.pointer (some ⟨bB, bO, none⟩)))], [], σ => g aB aO bB bO σ
  | _, _, _ => False
def corralsee_Alike.S3 (K : Value → Store → Prop) (aB aO bB bO : Nat) (σ : Store) : Prop := SndF Pr F.corralsee_Alike corralsee_Alike.H corralsee_Alike.T K 3 [.v (.iface 179 (.pointer (some ⟨aB, aO, none⟩))), .v (.iface 179 (.pointer (some ⟨bB, bO, none⟩)))] [] σ
def corralsee_Alike.j3 (K : Value → Store → Prop) (aB aO bB bO : Nat) (σ : Store) : Prop :=
  ∃ t19K t19K1 : Blk, σ aB = some t19K ∧ σ bB = some t19K1 ∧ t19K.fz = (0, 0) ∧ t19K1.fz = (0, 0) ∧
  K (.bool (decide ((⟨aB, aO, none⟩ : Addr) = ⟨bB, bO, none⟩))) σ
def corralsee_Alike.d2 (g : corralsee_Alike.R2) : List AV → List (List Value) → Store → Prop
  | [.v (.iface 179 (.pointer (some ⟨aB, aO, none⟩))), .v (.iface 179 (.pointer (some ⟨bB, bO, none⟩))), .v (.bool t10)], [], σ => g aB aO bB bO t10 σ
  | _, _, _ => False
def corralsee_Alike.S2 (K : Value → Store → Prop) (aB aO bB bO : Nat) (t10 : Bool) (σ : Store) : Prop := SndF Pr F.corralsee_Alike corralsee_Alike.H corralsee_Alike.T K 2 [.v (.iface 179 (.pointer (some ⟨aB, aO, none⟩))), .v (.iface 179 (.pointer (some ⟨bB, bO, none⟩))), .v (.bool t10)] [] σ
def corralsee_Alike.j2 (K : Value → Store → Prop) (aB aO bB bO : Nat) (t10 : Bool) (σ : Store) : Prop :=
  cond t10
  (K (.bool false) σ)
  (Hop (corralsee_Alike.T 3) (corralsee_Alike.T 3) (corralsee_Alike.j3 K aB aO bB bO σ))
def corralsee_Alike.m (K : Value → Store → Prop) (aB aO bB bO : Nat) (σ : Store) : Prop :=
  Hop (corralsee_Alike.T 2) (corralsee_Alike.T 2) (corralsee_Alike.j2 K aB aO bB bO false σ)
theorem corralsee_Alike.d3_ok {K : Value → Store → Prop} {g : corralsee_Alike.R3} (hg : ∀ aB aO bB bO σ, g aB aO bB bO σ → corralsee_Alike.S3 K aB aO bB bO σ) (vs : List AV) (bs : List (List Value)) (σ : Store) (h : corralsee_Alike.d3 g vs bs σ) : SndF Pr F.corralsee_Alike corralsee_Alike.H corralsee_Alike.T K 3 vs bs σ := by
  unfold corralsee_Alike.d3 at h
  split at h
  · exact hg _ _ _ _ _ h
  · exact h.elim
theorem corralsee_Alike.d2_ok {K : Value → Store → Prop} {g : corralsee_Alike.R2} (hg : ∀ aB aO bB bO t10 σ, g aB aO bB bO t10 σ → corralsee_Alike.S2 K aB aO bB bO t10 σ) (vs : List AV) (bs : List (List Value)) (σ : Store) (h : corralsee_Alike.d2 g vs bs σ) : SndF Pr F.corralsee_Alike corralsee_Alike.H corralsee_Alike.T K 2 vs bs σ := by
  unfold corralsee_Alike.d2 at h
  split at h
  · exact hg _ _ _ _ _ _ h
  · exact h.elim
noncomputable def corralsee_Alike.h3 (K : Value → Store → Prop) : Hand := hsel []
theorem corralsee_Alike.j3_eq (K : Value → Store → Prop) (aB aO bB bO : Nat) (σ : Store) : (seg Pr corralsee_Alike.H F.corralsee_Alike corralsee_Alike.T (corralsee_Alike.h3 K ) K (corralsee_Alike.T 3) (Ev.cutE corralsee_Alike.H 3 [.v (.iface 179 (.pointer (some ⟨aB, aO, none⟩))), .v (.iface 179 (.pointer (some ⟨bB, bO, none⟩)))] []) σ) = corralsee_Alike.j3 K aB aO bB bO σ := by kernel_rfl
theorem corralsee_Alike.j3_ok (K : Value → Store → Prop) (aB aO bB bO : Nat) (σ : Store) (h : corralsee_Alike.j3 K aB aO bB bO σ) : corralsee_Alike.S3 K aB aO bB bO σ := by
  rw [← corralsee_Alike.j3_eq] at h
  exact seg_snd Pr_mixed (hsel_sound fun x hx => by
    cases hx) h
noncomputable def corralsee_Alike.h2 (K : Value → Store → Prop) : Hand := hsel [(3, corralsee_Alike.d3 (corralsee_Alike.j3 K ))]
theorem corralsee_Alike.j2_eq (K : Value → Store → Prop) (aB aO bB bO : Nat) (t10 : Bool) (σ : Store) : (seg Pr corralsee_Alike.H F.corralsee_Alike corralsee_Alike.T (corralsee_Alike.h2 K ) K (corralsee_Alike.T 2) (Ev.cutE corralsee_Alike.H 2 [.v (.iface 179 (.pointer (some ⟨aB, aO, none⟩))), .v (.iface 179 (.pointer (some ⟨bB, bO, none⟩))), .v (.bool t10)] []) σ) = corralsee_Alike.j2 K aB aO bB bO t10 σ := by kernel_rfl
theorem corralsee_Alike.j2_ok (K : Value → Store → Prop) (aB aO bB bO : Nat) (t10 : Bool) (σ : Store) (h : corralsee_Alike.j2 K aB aO bB bO t10 σ) : corralsee_Alike.S2 K aB aO bB bO t10 σ := by
  rw [← corralsee_Alike.j2_eq] at h
  exact seg_snd Pr_mixed (hsel_sound fun x hx => by
    simp only [List.mem_cons, List.not_mem_nil, or_false] at hx
    subst hx
    exact corralsee_Alike.d3_ok fun _ _ _ _ _ h => corralsee_Alike.j3_ok K _ _ _ _ _ h) h
noncomputable def corralsee_Alike.h (K : Value → Store → Prop) : Hand := hsel [(2, corralsee_Alike.d2 (corralsee_Alike.j2 K ))]
theorem corralsee_Alike.m_eq (K : Value → Store → Prop) (aB aO bB bO : Nat) (σ : Store) : (segF Pr corralsee_Alike.H F.corralsee_Alike corralsee_Alike.T (corralsee_Alike.h K) K [.iface 179 (.pointer (some ⟨aB, aO, none⟩)), .iface 179 (.pointer (some ⟨bB, bO, none⟩))] σ) = corralsee_Alike.m K aB aO bB bO σ := by kernel_rfl
theorem corralsee_Alike.ok {K : Value → Store → Prop} {aB aO bB bO : Nat} {σ : Store} (h : corralsee_Alike.m K aB aO bB bO σ) : Spec Pr F.corralsee_Alike [.iface 179 (.pointer (some ⟨aB, aO, none⟩)), .iface 179 (.pointer (some ⟨bB, bO, none⟩))] σ K := by
  rw [← corralsee_Alike.m_eq] at h
  exact segF_spec Pr_mixed (hsel_sound fun x hx => by
    simp only [List.mem_cons, List.not_mem_nil, or_false] at hx
    subst hx
    exact corralsee_Alike.d2_ok fun _ _ _ _ _ _ h => corralsee_Alike.j2_ok K _ _ _ _ _ _ h) h

/-! ### corral/corralsee.Same -/
def corralsee_Same_n.H : Hints := { esc := [], cuts := [] }
noncomputable def corralsee_Same_n.T : Nat → List Item := stk Pr F.corralsee_Same []
def corralsee_Same_n.m (K : Value → Store → Prop) (f0 : Int) (f1A : Option Addr) (f1N f1C : Nat) (σ : Store) : Prop :=
  Spec Pr F.corralsee_Fault [.nilIface] σ fun v σ_ => ∃ t70 : Int, ∃ t71A : Option Addr, ∃ t71N : Nat, ∃ t71C : Nat, v = .agg #[.int .i64 t70, .slice t71A t71N t71C] ∧
  Spec Pr F.corralref_SameFault [.agg #[.int .i64 t70, .slice t71A t71N t71C], .agg #[.int .i64 f0, .slice f1A f1N f1C]] σ_ fun v1 σ_1 => ∃ t10 : Bool, v1 = .bool t10 ∧
  K (.bool t10) σ_1
noncomputable def corralsee_Same_n.h (K : Value → Store → Prop) : Hand := hsel []
theorem corralsee_Same_n.m_eq (K : Value → Store → Prop) (f0 : Int) (f1A : Option Addr) (f1N f1C : Nat) (σ : Store) : (segF Pr corralsee_Same_n.H F.corralsee_Same corralsee_Same_n.T (corralsee_Same_n.h K) K [.nilIface, .agg #[.int .i64 f0, .slice f1A f1N f1C]] σ) = corralsee_Same_n.m K f0 f1A f1N f1C σ := by kernel_rfl
theorem corralsee_Same_n.ok {K : Value → Store → Prop} {f0 : Int} {f1A : Option Addr} {f1N f1C : Nat} {σ : Store} (h : corralsee_Same_n.m K f0 f1A f1N f1C σ) : Spec Pr F.corralsee_Same [.nilIface, .agg #[.int .i64 f0, .slice f1A f1N f1C]] σ K := by
  rw [← corralsee_Same_n.m_eq] at h
  exact segF_spec Pr_mixed (hsel_sound fun x hx => by
    cases hx) h

/-! ### corral/corralsee.Same -/
def corralsee_Same_e.H : Hints := { esc := [], cuts := [] }
noncomputable def corralsee_Same_e.T : Nat → List Item := stk Pr F.corralsee_Same []
def corralsee_Same_e.m (K : Value → Store → Prop) (eB eO : Nat) (f0 : Int) (f1A : Option Addr) (f1N f1C : Nat) (σ : Store) : Prop :=
  Spec Pr F.corralsee_Fault [.iface 179 (.pointer (some ⟨eB, eO, none⟩))] σ fun v σ_ => ∃ t70 : Int, ∃ t71A : Option Addr, ∃ t71N : Nat, ∃ t71C : Nat, v = .agg #[.int .i64 t70, .slice t71A t71N t71C] ∧
  Spec Pr F.corralref_SameFault [.agg #[.int .i64 t70, .slice t71A t71N t71C], .agg #[.int .i64 f0, .slice f1A f1N f1C]] σ_ fun v1 σ_1 => ∃ t10 : Bool, v1 = .bool t10 ∧
  K (.bool t10) σ_1
noncomputable def corralsee_Same_e.h (K : Value → Store → Prop) : Hand := hsel []
theorem corralsee_Same_e.m_eq (K : Value → Store → Prop) (eB eO : Nat) (f0 : Int) (f1A : Option Addr) (f1N f1C : Nat) (σ : Store) : (segF Pr corralsee_Same_e.H F.corralsee_Same corralsee_Same_e.T (corralsee_Same_e.h K) K [.iface 179 (.pointer (some ⟨eB, eO, none⟩)), .agg #[.int .i64 f0, .slice f1A f1N f1C]] σ) = corralsee_Same_e.m K eB eO f0 f1A f1N f1C σ := by kernel_rfl
theorem corralsee_Same_e.ok {K : Value → Store → Prop} {eB eO : Nat} {f0 : Int} {f1A : Option Addr} {f1N f1C : Nat} {σ : Store} (h : corralsee_Same_e.m K eB eO f0 f1A f1N f1C σ) : Spec Pr F.corralsee_Same [.iface 179 (.pointer (some ⟨eB, eO, none⟩)), .agg #[.int .i64 f0, .slice f1A f1N f1C]] σ K := by
  rw [← corralsee_Same_e.m_eq] at h
  exact segF_spec Pr_mixed (hsel_sound fun x hx => by
    cases hx) h

/-! ### corral/corralsee.Is -/
def corralsee_Is_n.H : Hints := { esc := [], cuts := [] }
noncomputable def corralsee_Is_n.T : Nat → List Item := stk Pr F.corralsee_Is []
def corralsee_Is_n.m (K : Value → Store → Prop) (code : Int) (σ : Store) : Prop :=
  Spec Pr F.corralref_Bare [.int .i64 code] σ fun v σ_ => ∃ t70 : Int, ∃ t71A : Option Addr, ∃ t71N : Nat, ∃ t71C : Nat, v = .agg #[.int .i64 t70, .slice t71A t71N t71C] ∧
  Spec Pr F.corralsee_Same [.nilIface, .agg #[.int .i64 t70, .slice t71A t71N t71C]] σ_ fun v1 σ_1 => ∃ t8 : Bool, v1 = .bool t8 ∧
  K (.bool t8) σ_1
noncomputable def corralsee_Is_n.h (K : Value → Store → Prop) : Hand := hsel []
theorem corralsee_Is_n.m_eq (K : Value → Store → Prop) (code : Int) (σ : Store) : (segF Pr corralsee_Is_n.H F.corralsee_Is corralsee_Is_n.T (corralsee_Is_n.h K) K [.nilIface, .int .i64 code] σ) = corralsee_Is_n.m K code σ := by kernel_rfl
theorem corralsee_Is_n.ok {K : Value → Store → Prop} {code : Int} {σ : Store} (h : corralsee_Is_n.m K code σ) : Spec Pr F.corralsee_Is [.nilIface, .int .i64 code] σ K := by
  rw [← corralsee_Is_n.m_eq] at h
  exact segF_spec Pr_mixed (hsel_sound fun x hx => by
    cases hx) h

/-! ### corral/corralsee.Is -/
def corralsee_Is_e.H : Hints := { esc := [], cuts := [] }
noncomputable def corralsee_Is_e.T : Nat → List Item := stk Pr F.corralsee_Is []
def corralsee_Is_e.m (K : Value → Store → Prop) (eB eO : Nat) (code : Int) (σ : Store) : Prop :=
  Spec Pr F.corralref_Bare [.int .i64 code] σ fun v σ_ => ∃ t70 : Int, ∃ t71A : Option Addr, ∃ t71N : Nat, ∃ t71C : Nat, v = .agg #[.int .i64 t70, .slice t71A t71N t71C] ∧
  Spec Pr F.corralsee_Same [.iface 179 (.pointer (some ⟨eB, eO, none⟩)), .agg #[.int .i64 t70, .slice t71A t71N t71C]] σ_ fun v1 σ_1 => ∃ t8 : Bool, v1 = .bool t8 ∧
  K (.bool t8) σ_1
noncomputable def corralsee_Is_e.h (K : Value → Store → Prop) : Hand := hsel []
theorem corralsee_Is_e.m_eq (K : Value → Store → Prop) (eB eO : Nat) (code : Int) (σ : Store) : (segF Pr corralsee_Is_e.H F.corralsee_Is corralsee_Is_e.T (corralsee_Is_e.h K) K [.iface 179 (.pointer (some ⟨eB, eO, none⟩)), .int .i64 code] σ) = corralsee_Is_e.m K eB eO code σ := by kernel_rfl
theorem corralsee_Is_e.ok {K : Value → Store → Prop} {eB eO : Nat} {code : Int} {σ : Store} (h : corralsee_Is_e.m K eB eO code σ) : Spec Pr F.corralsee_Is [.iface 179 (.pointer (some ⟨eB, eO, none⟩)), .int .i64 code] σ K := by
  rw [← corralsee_Is_e.m_eq] at h
  exact segF_spec Pr_mixed (hsel_sound fun x hx => by
    cases hx) h

/-! ### corral/corralref.None -/
def corralref_None.H : Hints := { esc := [], cuts := [] }
noncomputable def corralref_None.T : Nat → List Item := stk Pr F.corralref_None []
def corralref_None.m (K : Value → Store → Prop) (σ : Store) : Prop :=
  K (.agg #[.int .i64 0, .slice none 0 0]) σ
noncomputable def corralref_None.h (K : Value → Store → Prop) : Hand := hsel []
theorem corralref_None.m_eq (K : Value → Store → Prop) (σ : Store) : (segF Pr corralref_None.H F.corralref_None corralref_None.T (corralref_None.h K) K [] σ) = corralref_None.m K σ := by kernel_rfl
theorem corralref_None.ok {K : Value → Store → Prop} {σ : Store} (h : corralref_None.m K σ) : Spec Pr F.corralref_None [] σ K := by
  rw [← corralref_None.m_eq] at h
  exact segF_spec Pr_mixed (hsel_sound fun x hx => by
    cases hx) h

/-! ### corral/corralref.Bare -/
def corralref_Bare.H : Hints := { esc := [], cuts := [] }
noncomputable def corralref_Bare.T : Nat → List Item := stk Pr F.corralref_Bare []
def corralref_Bare.m (K : Value → Store → Prop) (code : Int) (σ : Store) : Prop :=
  K (.agg #[.int .i64 code, .slice none 0 0]) σ
noncomputable def corralref_Bare.h (K : Value → Store → Prop) : Hand := hsel []
theorem corralref_Bare.m_eq (K : Value → Store → Prop) (code : Int) (σ : Store) : (segF Pr corralref_Bare.H F.corralref_Bare corralref_Bare.T (corralref_Bare.h K) K [.int .i64 code] σ) = corralref_Bare.m K code σ := by kernel_rfl
theorem corralref_Bare.ok {K : Value → Store → Prop} {code : Int} {σ : Store} (h : corralref_Bare.m K code σ) : Spec Pr F.corralref_Bare [.int .i64 code] σ K := by
  rw [← corralref_Bare.m_eq] at h
  exact segF_spec Pr_mixed (hsel_sound fun x hx => by
    cases hx) h

/-! ### corral/corralref.SameFault -/
def corralref_SameFault.H : Hints := { esc := [], cuts := [] }
noncomputable def corralref_SameFault.T : Nat → List Item := stk Pr F.corralref_SameFault []
def corralref_SameFault.m (K : Value → Store → Prop) (a0 : Int) (a1A : Option Addr) (a1N a1C : Nat) (b0 : Int) (b1A : Option Addr) (b1N b1C : Nat) (σ : Store) : Prop :=
  Spec Pr F.corralref_SameInts [.slice a1A a1N a1C, .slice b1A b1N b1C] σ fun v σ_ => ∃ t10 : Bool, v = .bool t10 ∧
  cond (a0 == b0)
  (K (.bool t10) σ_)
  (K (.bool false) σ_)
noncomputable def corralref_SameFault.h (K : Value → Store → Prop) : Hand := hsel []
theorem corralref_SameFault.m_eq (K : Value → Store → Prop) (a0 : Int) (a1A : Option Addr) (a1N a1C : Nat) (b0 : Int) (b1A : Option Addr) (b1N b1C : Nat) (σ : Store) : (segF Pr corralref_SameFault.H F.corralref_SameFault corralref_SameFault.T (corralref_SameFault.h K) K [.agg #[.int .i64 a0, .slice a1A a1N a1C], .agg #[.int .i64 b0, .slice b1A b1N b1C]] σ) = corralref_SameFault.m K a0 a1A a1N a1C b0 b1A b1N b1C σ := by kernel_rfl
theorem corralref_SameFault.ok {K : Value → Store → Prop} {a0 : Int} {a1A : Option Addr} {a1N a1C : Nat} {b0 : Int} {b1A : Option Addr} {b1N b1C : Nat} {σ : Store} (h : corralref_SameFault.m K a0 a1A a1N a1C b0 b1A b1N b1C σ) : Spec Pr F.corralref_SameFault [.agg #[.int .i64 a0, .slice a1A a1N a1C], .agg #[.int .i64 b0, .slice b1A b1N b1C]] σ K := by
  rw [← corralref_SameFault.m_eq] at h
  exact segF_spec Pr_mixed (hsel_sound fun x hx => by
    cases hx) h

/-! ### corral/corralref.SameInts -/
def corralref_SameInts.H : Hints := { esc := [], cuts := [(4, [0, 1, 5], []), (9, [], [])] }
noncomputable def corralref_SameInts.T : Nat → List Item := stk Pr F.corralref_SameInts [(4, [1, 1, 0, 1, 0, 0]), (9, [1, 1, 1])]
abbrev corralref_SameInts.R9 : Type := Store → Prop
abbrev corralref_SameInts.R4 : Type := Option Addr → Nat → Nat → Option Addr → Nat → Nat → Int → Store → Prop
def corralref_SameInts.d9 (g : corralref_SameInts.R9) : List AV → List (List Value) → Store → Prop
  | [], [], σ => g σ
  | _, _, _ => False
def corralref_SameInts.S9 (K : Value → Store → Prop) (σ : Store) : Prop := SndF Pr F.corralref_SameInts corralref_SameInts.H corralref_SameInts.T K 9 [] [] σ
def corralref_SameInts.j9 (K : Value → Store → Prop) (σ : Store) : Prop :=
  K (.bool true) σ
def corralref_SameInts.d4 (g : corralref_SameInts.R4) : List AV → List (List Value) → Store → Prop
  | [.v (.slice aA aN aC), .v (.slice bA bN bC), .v (.int .i64 i)], [], σ => g aA aN aC bA bN bC i σ
  | _, _, _ => False
def corralref_SameInts.S4 (K : Value → Store → Prop) (aA : Option Addr) (aN aC : Nat) (bA : Option Addr) (bN bC : Nat) (i : Int) (σ : Store) : Prop := SndF Pr F.corralref_SameInts corralref_SameInts.H corralref_SameInts.T K 4 [.v (.slice aA aN aC), .v (.slice bA bN bC), .v (.int .i64 i)] [] σ
def corralref_SameInts.b4 (K : Value → Store → Prop) (rr4 : corralref_SameInts.R4) (aA : Option Addr) (aN aC : Nat) (bA : Option Addr) (bN bC : Nat) (i : Int) (σ : Store) : Prop :=
  cond (decide (i < ((aN : Nat) : Int)))
  (Req (decide (0 ≤ i) && decide (i < ((aN : Nat) : Int))) (
      PtrNN aA fun t20B t20O =>
      ∃ t21 : Int, cellAt σ t20B (t20O + i.toNat * 1) = some (.int .i64 t21) ∧
      Req (decide (0 ≤ i) && decide (i < ((bN : Nat) : Int))) (
        PtrNN bA fun t24B t24O =>
        ∃ t25 : Int, cellAt σ t24B (t24O + i.toNat * 1) = some (.int .i64 t25) ∧
        cond (!(t21 == t25))
        (K (.bool false) σ)
        (Hop (corralref_SameInts.T 4) (corralref_SameInts.T 4) (rr4 aA aN aC bA bN bC (IntKind.wrap .i64 (i + 1)) σ)))))
  (Hop (corralref_SameInts.T 9) (corralref_SameInts.T 9) (corralref_SameInts.j9 K σ))
def corralref_SameInts.l4 (K : Value → Store → Prop) : Nat → corralref_SameInts.R4
  | 0, _, _, _, _, _, _, _, _ => False
  | n + 1, aA, aN, aC, bA, bN, bC, i, σ => corralref_SameInts.b4 K (corralref_SameInts.l4 K n) aA aN aC bA bN bC i σ
def corralref_SameInts.m (K : Value → Store → Prop) (aA : Option Addr) (aN aC : Nat) (bA : Option Addr) (bN bC : Nat) (σ : Store) : Prop :=
  cond (((aN : Nat) : Int) != ((bN : Nat) : Int))
  (K (.bool false) σ)
  (Hop (corralref_SameInts.T 4) (corralref_SameInts.T 4) (∃ n : Nat, corralref_SameInts.l4 K n aA aN aC bA bN bC 0 σ))
theorem corralref_SameInts.d9_ok {K : Value → Store → Prop} {g : corralref_SameInts.R9} (hg : ∀ σ, g σ → corralref_SameInts.S9 K σ) (vs : List AV) (bs : List (List Value)) (σ : Store) (h : corralref_SameInts.d9 g vs bs σ) : SndF Pr F.corralref_SameInts corralref_SameInts.H corralref_SameInts.T K 9 vs bs σ := by
  unfold corralref_SameInts.d9 at h
  split at h
  · exact hg _ h
  · exact h.elim
theorem corralref_SameInts.d4_ok {K : Value → Store → Prop} {g : corralref_SameInts.R4} (hg : ∀ aA aN aC bA bN bC i σ, g aA aN aC bA bN bC i σ → corralref_SameInts.S4 K aA aN aC bA bN bC i σ) (vs : List AV) (bs : List (List Value)) (σ : Store) (h : corralref_SameInts.d4 g vs bs σ) : SndF Pr F.corralref_SameInts corralref_SameInts.H corralref_SameInts.T K 4 vs bs σ := by
  unfold corralref_SameInts.d4 at h
  split at h
  · exact hg _ _ _ _ _ _ _ _ h
  · exact h.elim
noncomputable def corralref_SameInts.h9 (K : Value → Store → Prop) : Hand := hsel []
theorem corralref_SameInts.j9_eq (K : Value → Store → Prop) (σ : Store) : (seg Pr corralref_SameInts.H F.corralref_SameInts corralref_SameInts.T (corralref_SameInts.h9 K ) K (corralref_SameInts.T 9) (Ev.cutE corralref_SameInts.H 9 [] []) σ) = corralref_SameInts.j9 K σ := by kernel_rfl
theorem corralref_SameInts.j9_ok (K : Value → Store → Prop) (σ : Store) (h : corralref_SameInts.j9 K σ) : corralref_SameInts.S9 K σ := by
  rw [← corralref_SameInts.j9_eq] at h
  exact seg_snd Pr_mixed (hsel_sound fun x hx => by
    cases hx) h
noncomputable def corralref_SameInts.h4 (K : Value → Store → Prop) (rr4 : corralref_SameInts.R4) : Hand := hsel [(9, corralref_SameInts.d9 (corralref_SameInts.j9 K )), (4, corralref_SameInts.d4 rr4)]
theorem corralref_SameInts.b4_eq (K : Value → Store → Prop) (rr4 : corralref_SameInts.R4) (aA : Option Addr) (aN aC : Nat) (bA : Option Addr) (bN bC : Nat) (i : Int) (σ : Store) : (seg Pr corralref_SameInts.H F.corralref_SameInts corralref_SameInts.T (corralref_SameInts.h4 K rr4) K (corralref_SameInts.T 4) (Ev.cutE corralref_SameInts.H 4 [.v (.slice aA aN aC), .v (.slice bA bN bC), .v (.int .i64 i)] []) σ) = corralref_SameInts.b4 K rr4 aA aN aC bA bN bC i σ := by kernel_rfl
theorem corralref_SameInts.b4_ok (K : Value → Store → Prop) (rr4 : corralref_SameInts.R4) (hh4 : ∀ aA aN aC bA bN bC i σ, rr4 aA aN aC bA bN bC i σ → corralref_SameInts.S4 K aA aN aC bA bN bC i σ) (aA : Option Addr) (aN aC : Nat) (bA : Option Addr) (bN bC : Nat) (i : Int) (σ : Store) (h : corralref_SameInts.b4 K rr4 aA aN aC bA bN bC i σ) : corralref_SameInts.S4 K aA aN aC bA bN bC i σ := by
  rw [← corralref_SameInts.b4_eq] at h
  exact seg_snd Pr_mixed (hsel_sound fun x hx => by
    simp only [List.mem_cons, List.not_mem_nil, or_false] at hx
    rcases hx with rfl | rfl
    · exact corralref_SameInts.d9_ok fun _ h => corralref_SameInts.j9_ok K _ h
    · exact corralref_SameInts.d4_ok hh4) h
theorem corralref_SameInts.l4_ok (K : Value → Store → Prop) : ∀ (n : Nat) (aA : Option Addr) (aN aC : Nat) (bA : Option Addr) (bN bC : Nat) (i : Int) (σ : Store), corralref_SameInts.l4 K n aA aN aC bA bN bC i σ → corralref_SameInts.S4 K aA aN aC bA bN bC i σ
  | 0, _, _, _, _, _, _, _, _, h => h.elim
  | n + 1, _, _, _, _, _, _, _, _, h => corralref_SameInts.b4_ok K (corralref_SameInts.l4 K n) (corralref_SameInts.l4_ok K n) _ _ _ _ _ _ _ _ h
noncomputable def corralref_SameInts.h (K : Value → Store → Prop) : Hand := hsel [(4, corralref_SameInts.d4 fun aA aN aC bA bN bC i σ => ∃ n : Nat, corralref_SameInts.l4 K n aA aN aC bA bN bC i σ)]
theorem corralref_SameInts.m_eq (K : Value → Store → Prop) (aA : Option Addr) (aN aC : Nat) (bA : Option Addr) (bN bC : Nat) (σ : Store) : (segF Pr corralref_SameInts.H F.corralref_SameInts corralref_SameInts.T (corralref_SameInts.h K) K [.slice aA aN aC, .slice bA bN bC] σ) = corralref_SameInts.m K aA aN aC bA bN bC σ := by kernel_rfl
theorem corralref_SameInts.ok {K : Value → Store → Prop} {aA : Option Addr} {aN aC : Nat} {bA : Option Addr} {bN bC : Nat} {σ : Store} (h : corralref_SameInts.m K aA aN aC bA bN bC σ) : Spec Pr F.corralref_SameInts [.slice aA aN aC, .slice bA bN bC] σ K := by
  rw [← corralref_SameInts.m_eq] at h
  exact segF_spec Pr_mixed (hsel_sound fun x hx => by
    simp only [List.mem_cons, List.not_mem_nil, or_false] at hx
    subst hx
    exact corralref_SameInts.d4_ok fun _ _ _ _ _ _ _ _ ⟨n, h⟩ => corralref_SameInts.l4_ok K n _ _ _ _ _ _ _ _ h) h

end Go.Ev
