import Derived.Test.YtohkplmfihhhnaaDoorN
set_option linter.unusedVariables false
set_option maxRecDepth 100000
namespace Go.Ev
open Go
/-! ### corral/corralsee.fault -/
def corralsee_fault.H : Hints := { esc := [], cuts := [(3, [0, 1], [(4, 109)])] }
noncomputable def corralsee_fault.T : Nat → List Item := stk Pr F.corralsee_fault [(3, [1, 1])]
abbrev corralsee_fault.R3 : Type := Nat → Nat → Int → Int → Option Addr → Nat → Nat → Store → Prop
def corralsee_fault.d3 (g : corralsee_fault.R3) : List AV → List (List Value) → Store → Prop
  | [.v (.iface 179 (.pointer (some ⟨eB, eO, none⟩))), .v (.int .i64 left)], [[.int .i64 t40, .slice t41A t41N t41C]], σ => g eB eO left t40 t41A t41N t41C σ
  | _, _, _ => False
def corralsee_fault.S3 (K : Value → Store → Prop) (eB eO : Nat) (left t40 : Int) (t41A : Option Addr) (t41N t41C : Nat) (σ : Store) : Prop := SndF Pr F.corralsee_fault corralsee_fault.H corralsee_fault.T K 3 [.v (.iface 179 (.pointer (some ⟨eB, eO, none⟩))), .v (.int .i64 left)] [[.int .i64 t40, .slice t41A t41N t41C]] σ
def corralsee_fault.j3 (K : Value → Store → Prop) (eB eO : Nat) (left t40 : Int) (t41A : Option Addr) (t41N t41C : Nat) (σ : Store) : Prop :=
  Spec Pr F.corralsee_sentinel [.iface 179 (.pointer (some ⟨eB, eO, none⟩))] σ fun v σ_ => ∃ t40_1 : Int, v = .int .i64 t40_1 ∧
  Spec Pr F.corralref_Bare [.int .i64 t40_1] σ_ fun v1 σ_1 => ∃ t410 : Int, ∃ t411A : Option Addr, ∃ t411N : Nat, ∃ t411C : Nat, v1 = .agg #[.int .i64 t410, .slice t411A t411N t411C] ∧
  K (.agg #[.int .i64 t410, .slice t411A t411N t411C]) σ_1
def corralsee_fault.m (K : Value → Store → Prop) (eB eO : Nat) (left : Int) (σ : Store) : Prop :=
  cond (left == 0)
  (Spec Pr F.corralref_Bare [.int .i64 (-1)] σ fun v σ_ => ∃ t130 : Int, ∃ t131A : Option Addr, ∃ t131N : Nat, ∃ t131C : Nat, v = .agg #[.int .i64 t130, .slice t131A t131N t131C] ∧
    K (.agg #[.int .i64 t130, .slice t131A t131N t131C]) σ_)
  (Hop (corralsee_fault.T 3) (corralsee_fault.T 3) (corralsee_fault.j3 K eB eO left 0 none 0 0 σ))
theorem corralsee_fault.d3_ok {K : Value → Store → Prop} {g : corralsee_fault.R3} (hg : ∀ eB eO left t40 t41A t41N t41C σ, g eB eO left t40 t41A t41N t41C σ → corralsee_fault.S3 K eB eO left t40 t41A t41N t41C σ) (vs : List AV) (bs : List (List Value)) (σ : Store) (h : corralsee_fault.d3 g vs bs σ) : SndF Pr F.corralsee_fault corralsee_fault.H corralsee_fault.T K 3 vs bs σ := by
  unfold corralsee_fault.d3 at h
  split at h
  · exact hg _ _ _ _ _ _ _ _ h
  · exact h.elim
noncomputable def corralsee_fault.h3 (K : Value → Store → Prop) : Hand := hsel []
theorem corralsee_fault.j3_eq (K : Value → Store → Prop) (eB eO : Nat) (left t40 : Int) (t41A : Option Addr) (t41N t41C : Nat) (σ : Store) : (seg Pr corralsee_fault.H F.corralsee_fault corralsee_fault.T (corralsee_fault.h3 K ) K (corralsee_fault.T 3) (Ev.cutE corralsee_fault.H 3 [.v (.iface 179 (.pointer (some ⟨eB, eO, none⟩))), .v (.int .i64 left)] [[.int .i64 t40, .slice t41A t41N t41C]]) σ) = corralsee_fault.j3 K eB eO left t40 t41A t41N t41C σ := by kernel_rfl
theorem corralsee_fault.j3_ok (K : Value → Store → Prop) (eB eO : Nat) (left t40 : Int) (t41A : Option Addr) (t41N t41C : Nat) (σ : Store) (h : corralsee_fault.j3 K eB eO left t40 t41A t41N t41C σ) : corralsee_fault.S3 K eB eO left t40 t41A t41N t41C σ := by
  rw [← corralsee_fault.j3_eq] at h
  exact seg_snd Pr_mixed (hsel_sound fun x hx => by
    cases hx) h
noncomputable def corralsee_fault.h (K : Value → Store → Prop) : Hand := hsel [(3, corralsee_fault.d3 (corralsee_fault.j3 K ))]
theorem corralsee_fault.m_eq (K : Value → Store → Prop) (eB eO : Nat) (left : Int) (σ : Store) : (segF Pr corralsee_fault.H F.corralsee_fault corralsee_fault.T (corralsee_fault.h K) K [.iface 179 (.pointer (some ⟨eB, eO, none⟩)), .int .i64 left] σ) = corralsee_fault.m K eB eO left σ := by kernel_rfl
theorem corralsee_fault.ok {K : Value → Store → Prop} {eB eO : Nat} {left : Int} {σ : Store} (h : corralsee_fault.m K eB eO left σ) : Spec Pr F.corralsee_fault [.iface 179 (.pointer (some ⟨eB, eO, none⟩)), .int .i64 left] σ K := by
  rw [← corralsee_fault.m_eq] at h
  exact segF_spec Pr_mixed (hsel_sound fun x hx => by
    simp only [List.mem_cons, List.not_mem_nil, or_false] at hx
    subst hx
    exact corralsee_fault.d3_ok fun _ _ _ _ _ _ _ _ h => corralsee_fault.j3_ok K _ _ _ _ _ _ _ _ h) h

/-! ### corral/corralsee.Fault -/
def corralsee_Fault_n.H : Hints := { esc := [], cuts := [] }
noncomputable def corralsee_Fault_n.T : Nat → List Item := stk Pr F.corralsee_Fault []
def corralsee_Fault_n.m (K : Value → Store → Prop) (σ : Store) : Prop :=
  Spec Pr F.corralref_None [] σ fun v σ_ => ∃ t50 : Int, ∃ t51A : Option Addr, ∃ t51N : Nat, ∃ t51C : Nat, v = .agg #[.int .i64 t50, .slice t51A t51N t51C] ∧
  K (.agg #[.int .i64 t50, .slice t51A t51N t51C]) σ_
noncomputable def corralsee_Fault_n.h (K : Value → Store → Prop) : Hand := hsel []
theorem corralsee_Fault_n.m_eq (K : Value → Store → Prop) (σ : Store) : (segF Pr corralsee_Fault_n.H F.corralsee_Fault corralsee_Fault_n.T (corralsee_Fault_n.h K) K [.nilIface] σ) = corralsee_Fault_n.m K σ := by kernel_rfl
theorem corralsee_Fault_n.ok {K : Value → Store → Prop} {σ : Store} (h : corralsee_Fault_n.m K σ) : Spec Pr F.corralsee_Fault [.nilIface] σ K := by
  rw [← corralsee_Fault_n.m_eq] at h
  exact segF_spec Pr_mixed (hsel_sound fun x hx => by
    cases hx) h

/-! ### corral/corralsee.Fault -/
def corralsee_Fault_e.H : Hints := { esc := [], cuts := [] }
noncomputable def corralsee_Fault_e.T : Nat → List Item := stk Pr F.corralsee_Fault []
def corralsee_Fault_e.m (K : Value → Store → Prop) (eB eO : Nat) (σ : Store) : Prop :=
  Spec Pr F.corralsee_fault [.iface 179 (.pointer (some ⟨eB, eO, none⟩)), .int .i64 9] σ fun v σ_ => ∃ t70 : Int, ∃ t71A : Option Addr, ∃ t71N : Nat, ∃ t71C : Nat, v = .agg #[.int .i64 t70, .slice t71A t71N t71C] ∧
  K (.agg #[.int .i64 t70, .slice t71A t71N t71C]) σ_
noncomputable def corralsee_Fault_e.h (K : Value → Store → Prop) : Hand := hsel []
theorem corralsee_Fault_e.m_eq (K : Value → Store → Prop) (eB eO : Nat) (σ : Store) : (segF Pr corralsee_Fault_e.H F.corralsee_Fault corralsee_Fault_e.T (corralsee_Fault_e.h K) K [.iface 179 (.pointer (some ⟨eB, eO, none⟩))] σ) = corralsee_Fault_e.m K eB eO σ := by kernel_rfl
theorem corralsee_Fault_e.ok {K : Value → Store → Prop} {eB eO : Nat} {σ : Store} (h : corralsee_Fault_e.m K eB eO σ) : Spec Pr F.corralsee_Fault [.iface 179 (.pointer (some ⟨eB, eO, none⟩))] σ K := by
  rw [← corralsee_Fault_e.m_eq] at h
  exact segF_spec Pr_mixed (hsel_sound fun x hx => by
    cases hx) h

/-! ### corral/corralsee.Alike -/
def corralsee_Alike.H : Hints := { esc := [], cuts := [(2, [0, 1, 10], []), (3, [0, 1], [])] }
noncomputable def corralsee_Alike.T : Nat → List Item := stk Pr F.corralsee_Alike [(2, [1, 0, 1]), (3, [1, 1])]
abbrev corralsee_Alike.R3 : Type := Nat → Nat → Nat → Nat → Store → Prop
abbrev corralsee_Alike.R2 : Type := Nat → Nat → Nat → Nat → Bool → Store → Prop
def corralsee_Alike.d3 (g : corralsee_Alike.R3) : List AV → List (List Value) → Store → Prop
  | [.v (.iface 179 (.pointer (some ⟨aB, aO, none⟩))), .v (.iface 179 (.pointer (some ⟨bB, bO, none⟩)))], [], σ => g aB aO bB bO σ
  | _, _, _ => False
def corralsee_Alike.S3 (K : Value → Store → Prop) (aB aO bB bO : Nat) (σ : Store) : Prop := SndF Pr F.corralsee_Alike corralsee_Alike.H corralsee_Alike.T K 3 [.v (.iface 179 (.pointer (some ⟨aB, aO, none⟩))), .v (.iface 179 (.pointer (some ⟨bB, bO, none⟩)))] [] σ
def corralsee_Alike.j3 (K : Value → Store → Prop) (aB aO bB bO : Nat) (σ : Store) : Prop :=
  ∃ t19K t19K1 : Blk, σ aB = some t19K ∧ σ bB = some t19K1 ∧ t19K.fz = (0, 0) ∧ t19K1.fz = (0, 0) ∧
  K (.bool (decide ((⟨aB, aO, none⟩ : Addr) = ⟨bB, bO, none⟩))) σ
def corralsee_Alike.d2 (g : corralsee_Alike.R2) : List AV → List (List Value) → Store → Prop
  | [.v (.iface 179 (.pointer (some ⟨aB, aO, none⟩))), .v (.iface 179 (.pointer (some ⟨bB, bO, none⟩))), .v (.bool t10)], [], σ => g aB aO bB bO t10 σ
  | _, _, _ => False
def corralsee_Alike.S2 (K : Value → Store → Prop) (aB aO bB bO : Nat) (t10 : Bool) (σ : Store) : Prop := SndF Pr F.corralsee_Alike corralsee_Alike.H corralsee_Alike.T K 2 [.v (.iface 179 (.pointer (some ⟨aB, aO, none⟩))), .v (.iface 179 (.pointer (some ⟨bB, bO, none⟩))), .v (.bool t10)] [] σ
def corralsee_Alike.j2 (K : Value → Store → Prop) (aB aO bB bO : Nat) (t10 : Bool) (σ : Store) : Prop :=
  cond t10
  (K (.bool false) σ)
  (Hop (corralsee_Alike.T 3) (corralsee_Alike.T 3) (corralsee_Alike.j3 K aB aO bB bO σ))
def corralsee_Alike.m (K : Value → Store → Prop) (aB aO bB bO : Nat) (σ : Store) : Prop :=
  Hop (corralsee_Alike.T 2) (corralsee_Alike.T 2) (corralsee_Alike.j2 K aB aO bB bO false σ)
theorem corralsee_Alike.d3_ok {K : Value → Store → Prop} {g : corralsee_Alike.R3} (hg : ∀ aB aO bB bO σ, g aB aO bB bO σ → corralsee_Alike.S3 K aB aO bB bO σ) (vs : List AV) (bs : List (List Value)) (σ : Store) (h : corralsee_Alike.d3 g vs bs σ) : SndF Pr F.corralsee_Alike corralsee_Alike.H corralsee_Alike.T K 3 vs bs σ := by
  unfold corralsee_Alike.d3 at h
  split at h
  · exact hg _ _ _ _ _ h
  · exact h.elim
theorem corralsee_Alike.d2_ok {K : Value → Store → Prop} {g : corralsee_Alike.R2} (hg : ∀ aB aO bB bO t10 σ, g aB aO bB bO t10 σ → corralsee_Alike.S2 K aB aO bB bO t10 σ) (vs : List AV) (bs : List (List Value)) (σ : Store) (h : corralsee_Alike.d2 g vs bs σ) : SndF Pr F.corralsee_Alike corralsee_Alike.H corralsee_Alike.T K 2 vs bs σ := by
  unfold corralsee_Alike.d2 at h
  split at h
  · exact hg _ _ _ _ _ _ h
  · exact h.elim
noncomputable def corralsee_Alike.h3 (K : Value → Store → Prop) : Hand := hsel []
theorem corralsee_Alike.j3_eq (K : Value → Store → Prop) (aB aO bB bO : Nat) (σ : Store) : (seg Pr corralsee_Alike.H F.corralsee_Alike corralsee_Alike.T (corralsee_Alike.h3 K ) K (corralsee_Alike.T 3) (Ev.cutE corralsee_Alike.H 3 [.v (.iface 179 (.pointer (some ⟨aB, aO, none⟩))), .v (.iface 179 (.pointer (some ⟨bB, bO, none⟩)))] []) σ) = corralsee_Alike.j3 K aB aO bB bO σ := by kernel_rfl
theorem corralsee_Alike.j3_ok (K : Value → Store → Prop) (aB aO bB bO : Nat) (σ : Store) (h : corralsee_Alike.j3 K aB aO bB bO σ) : corralsee_Alike.S3 K aB aO bB bO σ := by
  rw [← corralsee_Alike.j3_eq] at h
  exact seg_snd Pr_mixed (hsel_sound fun x hx => by
    cases hx) h
noncomputable def corralsee_Alike.h2 (K : Value → Store → Prop) : Hand := hsel [(3, corralsee_Alike.d3 (corralsee_Alike.j3 K ))]
theorem corralsee_Alike.j2_eq (K : Value → Store → Prop) (aB aO bB bO : Nat) (t10 : Bool) (σ : Store) : (seg Pr corralsee_Alike.H F.corralsee_Alike corralsee_Alike.T (corralsee_Alike.h2 K ) K (corralsee_Alike.T 2) (Ev.cutE corralsee_Alike.H 2 [.v (.iface 179 (.pointer (some ⟨aB, aO, none⟩))), .v (.iface 179 (.pointer (some ⟨bB, bO, none⟩))), .v (.bool t10)] []) σ) = corralsee_Alike.j2 K aB aO bB bO t10 σ := by kernel_rfl
theorem corralsee_Alike.j2_ok (K : Value → Store → Prop) (aB aO bB bO : Nat) (t10 : Bool) (σ : Store) (h : corralsee_Alike.j2 K aB aO bB bO t10 σ) : corralsee_Alike.S2 K aB aO bB bO t10 σ := by
  rw [← corralsee_Alike.j2_eq] at h
  exact seg_snd Pr_mixed (hsel_sound fun x hx => by
    simp only [List.mem_cons, List.not_mem_nil, or_false] at hx
    subst hx
    exact corralsee_Alike.d3_ok fun _ _ _ _ _ h => corralsee_Alike.j3_ok K _ _ _ _ _ h) h
noncomputable def corralsee_Alike.h (K : Value → Store → Prop) : Hand := hsel [(2, corralsee_Alike.d2 (corralsee_Alike.j2 K ))]
theorem corralsee_Alike.m_eq (K : Value → Store → Prop) (aB aO bB bO : Nat) (σ : Store) : (segF Pr corralsee_Alike.H F.corralsee_Alike corralsee_Alike.T (corralsee_Alike.h K) K [.iface 179 (.pointer (some ⟨aB, aO, none⟩)), .iface 179 (.pointer (some ⟨bB, bO, none⟩))] σ) = corralsee_Alike.m K aB aO bB bO σ := by kernel_rfl
theorem corralsee_Alike.ok {K : Value → Store → Prop} {aB aO bB bO : Nat} {σ : Store} (h : corralsee_Alike.m K aB aO bB bO σ) : Spec Pr F.corralsee_Alike [.iface 179 (.pointer (some ⟨aB, aO, none⟩)), .iface 179 (.pointer (some ⟨bB, bO, none⟩))] σ K := by
  rw [← corralsee_Alike.m_eq] at h
  exact segF_spec Pr_mixed (hsel_sound fun x hx => by
    simp only [List.mem_cons, List.not_mem_nil, or_false] at hx
    subst hx
    exact corralsee_Alike.d2_ok fun _ _ _ _ _ _ h => corralsee_Alike.j2_ok K _ _ _ _ _ _ h) h

/-! ### corral/corralsee.Same -/
def corralsee_Same_n.H : Hints := { esc := [], cuts := [] }
noncomputable def corralsee_Same_n.T : Nat → List Item := stk Pr F.corralsee_Same []
def corralsee_Same_n.m (K : Value → Store → Prop) (f0 : Int) (f1A : Option Addr) (f1N f1C : Nat) (σ : Store) : Prop :=
  Spec Pr F.corralsee_Fault [.nilIface] σ fun v σ_ => ∃ t70 : Int, ∃ t71A : Option Addr, ∃ t71N : Nat, ∃ t71C : Nat, v = .agg #[.int .i64 t70, .slice t71A t71N t71C] ∧
  Spec Pr F.corralref_SameFault [.agg #[.int .i64 t70, .slice t71A t71N t71C], .agg #[.int .i64 f0, .slice f1A f1N f1C]] σ_ fun v1 σ_1 => ∃ t10 : Bool, v1 = .bool t10 ∧
  K (.bool t10) σ_1
noncomputable def corralsee_Same_n.h (K : Value → Store → Prop) : Hand := hsel []
theorem corralsee_Same_n.m_eq (K : Value → Store → Prop) (f0 : Int) (f1A : Option Addr) (f1N f1C : Nat) (σ : Store) : (segF Pr corralsee_Same_n.H F.corralsee_Same corralsee_Same_n.T (corralsee_Same_n.h K) K [.nilIface, .agg #[.int .i64 f0, .slice f1A f1N f1C]] σ) = corralsee_Same_n.m K f0 f1A f1N f1C σ := by kernel_rfl
theorem corralsee_Same_n.ok {K : Value → Store → Prop} {f0 : Int} {f1A : Option Addr} {f1N f1C : Nat} {σ : Store} (h : corralsee_Same_n.m K f0 f1A f1N f1C σ) : Spec Pr F.corralsee_Same [.nilIface, .agg #[.int .i64 f0, .slice f1A f1N f1C]] σ K := by
  rw [← corralsee_Same_n.m_eq] at h
  exact segF_spec Pr_mixed (hsel_sound fun x hx => by
    cases hx) h

/-! ### corral/corralsee.Same -/
def corralsee_Same_e.H : Hints := { esc := [], cuts := [] }
noncomputable def corralsee_Same_e.T : Nat → List Item := stk Pr F.corralsee_Same []
def corralsee_Same_e.m (K : Value → Store → Prop) (eB eO : Nat) (f0 : Int) (f1A : Option Addr) (f1N f1C : Nat) (σ : Store) : Prop :=
  Spec Pr F.corralsee_Fault [.iface 179 (.pointer (some ⟨eB, eO, none⟩))] σ fun v σ_ => ∃ t70 : Int, ∃ t71A : Option Addr, ∃ t71N : Nat, ∃ t71C : Nat, v = .agg #[.int .i64 t70, .slice t71A t71N t71C] ∧
  Spec Pr F.corralref_SameFault [.agg #[.int .i64 t70, .slice t71A t71N t71C], .agg #[.int .i64 f0, .slice f1A f1N f1C]] σ_ fun v1 σ_1 => ∃ t10 : Bool, v1 = .bool t10 ∧
  K (.bool t10) σ_1
noncomputable def corralsee_Same_e.h (K : Value → Store → Prop) : Hand := hsel []
theorem corralsee_Same_e.m_eq (K : Value → Store → Prop) (eB eO : Nat) (f0 : Int) (f1A : Option Addr) (f1N f1C : Nat) (σ : Store) : (segF Pr corralsee_Same_e.H F.corralsee_Same corralsee_Same_e.T (corralsee_Same_e.h K) K [.iface 179 (.pointer (some ⟨eB, eO, none⟩)), .agg #[.int .i64 f0, .slice f1A f1N f1C]] σ) = corralsee_Same_e.m K eB eO f0 f1A f1N f1C σ := by kernel_rfl
theorem corralsee_Same_e.ok {K : Value → Store → Prop} {eB eO : Nat} {f0 : Int} {f1A : Option Addr} {f1N f1C : Nat} {σ : Store} (h : corralsee_Same_e.m K eB eO f0 f1A f1N f1C σ) : Spec Pr F.corralsee_Same [.iface 179 (.pointer (some ⟨eB, eO, none⟩)), .agg #[.int .i64 f0, .slice f1A f1N f1C]] σ K := by
  rw [← corralsee_Same_e.m_eq] at h
  exact segF_spec Pr_mixed (hsel_sound fun x hx => by
    cases hx) h

/-! ### corral/corralsee.Is -/
def corralsee_Is_n.H : Hints := { esc := [], cuts := [] }
noncomputable def corralsee_Is_n.T : Nat → List Item := stk Pr F.corralsee_Is []
def corralsee_Is_n.m (K : Value → Store → Prop) (code : Int) (σ : Store) : Prop :=
  Spec Pr F.corralref_Bare [.int .i64 code] σ fun v σ_ => ∃ t70 : Int, ∃ t71A : Option Addr, ∃ t71N : Nat, ∃ t71C : Nat, v = .agg #[.int .i64 t70, .slice t71A t71N t71C] ∧
  Spec Pr F.corralsee_Same [.nilIface, .agg #[.int .i64 t70, .slice t71A t71N t71C]] σ_ fun v1 σ_1 => ∃ t8 : Bool, v1 = .bool t8 ∧
  K (.bool t8) σ_1
noncomputable def corralsee_Is_n.h (K : Value → Store → Prop) : Hand := hsel []
theorem corralsee_Is_n.m_eq (K : Value → Store → Prop) (code : Int) (σ : Store) : (segF Pr corralsee_Is_n.H F.corralsee_Is corralsee_Is_n.T (corralsee_Is_n.h K) K [.nilIface, .int .i64 code] σ) = corralsee_Is_n.m K code σ := by kernel_rfl
theorem corralsee_Is_n.ok {K : Value → Store → Prop} {code : Int} {σ : Store} (h : corralsee_Is_n.m K code σ) : Spec Pr F.corralsee_Is [.nilIface, .int .i64 code] σ K := by
  rw [← corralsee_Is_n.m_eq] at h
  exact segF_spec Pr_mixed (hsel_sound fun x hx => by
    cases hx) h

/-! ### corral/corralsee.Is -/
def corralsee_Is_e.H : Hints := { esc := [], cuts := [] }
noncomputable def corralsee_Is_e.T : Nat → List Item := stk Pr F.corralsee_Is []
def corralsee_Is_e.m (K : Value → Store → Prop) (eB eO : Nat) (code : Int) (σ : Store) : Prop :=
  Spec Pr F.corralref_Bare [.int .i64 code] σ fun v σ_ => ∃ t70 : Int, ∃ t71A : Option Addr, ∃ t71N : Nat, ∃ t71C : Nat, v = .agg #[.int .i64 t70, .slice t71A t71N t71C] ∧
  Spec Pr F.corralsee_Same [.iface 179 (.pointer (some ⟨eB, eO, none⟩)), .agg #[.int .i64 t70, .slice t71A t71N t71C]] σ_ fun v1 σ_1 => ∃ t8 : Bool, v1 = .bool t8 ∧
  K (.bool t8) σ_1
noncomputable def corralsee_Is_e.h (K : Value → Store → Prop) : Hand := hsel []
theorem corralsee_Is_e.m_eq (K : Value → Store → Prop) (eB eO : Nat) (code : Int) (σ : Store) : (segF Pr corralsee_Is_e.H F.corralsee_Is corralsee_Is_e.T (corralsee_Is_e.h K) K [.iface 179 (.pointer (some ⟨eB, eO, none⟩)), .int .i64 code] σ) = corralsee_Is_e.m K eB eO code σ := by kernel_rfl
theorem corralsee_Is_e.ok {K : Value → Store → Prop} {eB eO : Nat} {code : Int} {σ : Store} (h : corralsee_Is_e.m K eB eO code σ) : Spec Pr F.corralsee_Is [.iface 179 (.pointer (some ⟨eB, eO, none⟩)), .int .i64 code] σ K := by
  rw [← corralsee_Is_e.m_eq] at h
  exact segF_spec Pr_mixed (hsel_sound fun x hx => by
    cases hx) h

/-! ### corral/corralref.None -/
def corralref_None.H : Hints := { esc := [], cuts := [] }
noncomputable def corralref_None.T : Nat → List Item := stk Pr F.corralref_None []
def corralref_None.m (K : Value → Store → Prop) (σ : Store) : Prop :=
  K (.agg #[.int .i64 0, .slice none 0 0]) σ
noncomputable def corralref_None.h (K : Value → Store → Prop) : Hand := hsel []
theorem corralref_None.m_eq (K : Value → Store → Prop) (σ : Store) : (segF Pr corralref_None.H F.corralref_None corralref_None.T (corralref_None.h K) K [] σ) = corralref_None.m K σ := by kernel_rfl
theorem corralref_None.ok {K : Value → Store → Prop} {σ : Store} (h : corralref_None.m K σ) : Spec Pr F.corralref_None [] σ K := by
  rw [← corralref_None.m_eq] at h
  exact segF_spec Pr_mixed (hsel_sound fun x hx => by
    cases hx) h

/-! ### corral/corralref.Bare -/
def corralref_Bare.H : Hints := { esc := [], cuts := [] }
noncomputable def corralref_Bare.T : Nat → List Item := stk Pr F.corralref_Bare []
def corralref_Bare.m (K : Value → Store → Prop) (code : Int) (σ : Store) : Prop :=
  K (.agg #[.int .i64 code, .slice none 0 0]) σ
noncomputable def corralref_Bare.h (K : Value → Store → Prop) : Hand := hsel []
theorem corralref_Bare.m_eq (K : Value → Store → Prop) (code : Int) (σ : Store) : (segF Pr corralref_Bare.H F.corralref_Bare corralref_Bare.T (corralref_Bare.h K) K [.int .i64 code] σ) = corralref_Bare.m K code σ := by kernel_rfl
theorem corralref_Bare.ok {K : Value → Store → Prop} {code : Int} {σ : Store} (h : corralref_Bare.m K code σ) : Spec Pr F.corralref_Bare [.int .i64 code] σ K := by
  rw [← corralref_Bare.m_eq] at h
  exact segF_spec Pr_mixed (hsel_sound fun x hx => by
    cases hx) h

/-! ### corral/corralref.SameFault -/
def corralref_SameFault.H : Hints := { esc := [], cuts := [] }
noncomputable def corralref_SameFault.T : Nat → List Item := stk Pr F.corralref_SameFault []
def corralref_SameFault.m (K : Value → Store → Prop) (a0 : Int) (a1A : Option Addr) (a1N a1C : Nat) (b0 : Int) (b1A : Option Addr) (b1N b1C : Nat) (σ : Store) : Prop :=
  Spec Pr F.corralref_SameInts [.slice a1A a1N a1C, .slice b1A b1N b1C] σ fun v σ_ => ∃ t10 : Bool, v = .bool t10 ∧
  cond (a0 == b0)
  (K (.bool t10) σ_)
  (K (.bool false) σ_)
noncomputable def corralref_SameFault.h (K : Value → Store → Prop) : Hand := hsel []
theorem corralref_SameFault.m_eq (K : Value → Store → Prop) (a0 : Int) (a1A : Option Addr) (a1N a1C : Nat) (b0 : Int) (b1A : Option Addr) (b1N b1C : Nat) (σ : Store) : (segF Pr corralref_SameFault.H F.corralref_SameFault corralref_SameFault.T (corralref_SameFault.h K) K [.agg #[.int .i64 a0, .slice a1A a1N a1C], .agg #[.int .i64 b0, .slice b1A b1N b1C]] σ) = corralref_SameFault.m K a0 a1A a1N a1C b0 b1A b1N b1C σ := by kernel_rfl
theorem corralref_SameFault.ok {K : Value → Store → Prop} {a0 : Int} {a1A : Option Addr} {a1N a1C : Nat} {b0 : Int} {b1A : Option Addr} {b1N b1C : Nat} {σ : Store} (h : corralref_SameFault.m K a0 a1A a1N a1C b0 b1A b1N b1C σ) : Spec Pr F.corralref_SameFault [.agg #[.int .i64 a0, .slice a1A a1N a1C], .agg #[.int .i64 b0, .slice b1A b1N b1C]] σ K := by
  rw [← corralref_SameFault.m_eq] at h
  exact segF_spec Pr_mixed (hsel_sound fun x hx => by
    cases hx) h

/-! ### corral/corralref.SameInts -/
def corralref_SameInts.H : Hints := { esc := [], cuts := [(4, [0, 1, 5], []), (9, [], [])] }
noncomputable def corralref_SameInts.T : Nat → List Item := stk Pr F.corralref_SameInts [(4, [1, 1, 0, 1, 0, 0]), (9, [1, 1, 1])]
abbrev corralref_SameInts.R9 : Type := Store → Prop
abbrev corralref_SameInts.R4 : Type := Option Addr → Nat → Nat → Option Addr → Nat → Nat → Int → Store → Prop
def corralref_SameInts.d9 (g : corralref_SameInts.R9) : List AV → List (List Value) → Store → Prop
  | [], [], σ => g σ
  | _, _, _ => False
def corralref_SameInts.S9 (K : Value → Store → Prop) (σ : Store) : Prop := SndF Pr F.corralref_SameInts corralref_SameInts.H corralref_SameInts.T K 9 [] [] σ
def corralref_SameInts.j9 (K : Value → Store → Prop) (σ : Store) : Prop :=
  K (.bool true) σ
def corralref_SameInts.d4 (g : corralref_SameInts.R4) : List AV → List (List Value) → Store → Prop
  | [.v (.slice aA aN aC), .v (.slice bA bN bC), .v (.int .i64 i)], [], σ => g aA aN aC bA bN bC i σ
  | _, _, _ => False
def corralref_SameInts.S4 (K : Value → Store → Prop) (aA : Option Addr) (aN aC : Nat) (bA : Option Addr) (bN bC : Nat) (i : Int) (σ : Store) : Prop := SndF Pr F.corralref_SameInts corralref_SameInts.H corralref_SameInts.T K 4 [.v (.slice aA aN aC), .v (.slice bA bN bC), .v (.int .i64 i)] [] σ
def corralref_SameInts.b4 (K : Value → Store → Prop) (rr4 : corralref_SameInts.R4) (aA : Option Addr) (aN aC : Nat) (bA : Option Addr) (bN bC : Nat) (i : Int) (σ : Store) : Prop :=
  cond (decide (i < ((aN : Nat) : Int)))
  (Req (decide (0 ≤ i) && decide (i < ((aN : Nat) : Int))) (
      PtrNN aA fun t20B t20O =>
      ∃ t21 : Int, cellAt σ t20B (t20O + i.toNat * 1) = some (.int .i64 t21) ∧
      Req (decide (0 ≤ i) && decide (i < ((bN : Nat) : Int))) (
        PtrNN bA fun t24B t24O =>
        ∃ t25 : Int, cellAt σ t24B (t24O + i.toNat * 1) = some (.int .i64 t25) ∧
        cond (!(t21 == t25))
        (K (.bool false) σ)
        (Hop (corralref_SameInts.T 4) (corralref_SameInts.T 4) (rr4 aA aN aC bA bN bC (IntKind.wrap .i64 (i + 1)) σ)))))
  (Hop (corralref_SameInts.T 9) (corralref_SameInts.T 9) (corralref_SameInts.j9 K σ))
def corralref_SameInts.l4 (K : Value → Store → Prop) : Nat → corralref_SameInts.R4
  | 0, _, _, _, _, _, _, _, _ => False
  | n + 1, aA, aN, aC, bA, bN, bC, i, σ => corralref_SameInts.b4 K (corralref_SameInts.l4 K n) aA aN aC bA bN bC i σ
def corralref_SameInts.m (K : Value → Store → Prop) (aA : Option Addr) (aN aC : Nat) (bA : Option Addr) (bN bC : Nat) (σ : Store) : Prop :=
  cond (((aN : Nat) : Int) != ((bN : Nat) : Int))
  (K (.bool false) σ)
  (Hop (corralref_SameInts.T 4) (corralref_SameInts.T 4) (∃ n : Nat, corralref_SameInts.l4 K n aA aN aC bA bN bC 0 σ))
theorem corralref_SameInts.d9_ok {K : Value → Store → Prop} {g : corralref_SameInts.R9} (hg : ∀ σ, g σ → corralref_SameInts.S9 K σ) (vs : List AV) (bs : List (List Value)) (σ : Store) (h : corralref_SameInts.d9 g vs bs σ) : SndF Pr F.corralref_SameInts corralref_SameInts.H corralref_SameInts.T K 9 vs bs σ := by
  unfold corralref_SameInts.d9 at h
  split at h
  · exact hg _ h
  · exact h.elim
theorem corralref_SameInts.d4_ok {K : Value → Store → Prop} {g : corralref_SameInts.R4} (hg : ∀ aA aN aC bA bN bC i σ, g aA aN aC bA bN bC i σ → corralref_SameInts.S4 K aA aN aC bA bN bC i σ) (vs : List AV) (bs : List (List Value)) (σ : Store) (h : corralref_SameInts.d4 g vs bs σ) : SndF Pr F.corralref_SameInts corralref_SameInts.H corralref_SameInts.T K 4 vs bs σ := by
  unfold corralref_SameInts.d4 at h
  split at h
  · exact hg _ _ _ _ _ _ _ _ h
  · exact h.elim
noncomputable def corralref_SameInts.h9 (K : Value → Store → Prop) : Hand := hsel []
theorem corralref_SameInts.j9_eq (K : Value → Store → Prop) (σ : Store) : (seg Pr corralref_SameInts.H F.corralref_SameInts corralref_SameInts.T (corralref_SameInts.h9 K ) K (corralref_SameInts.T 9) (Ev.cutE corralref_SameInts.H 9 [] []) σ) = corralref_SameInts.j9 K σ := by kernel_rfl
theorem corralref_SameInts.j9_ok (K : Value → Store → Prop) (σ : Store) (h : corralref_SameInts.j9 K σ) : corralref_SameInts.S9 K σ := by
  rw [← corralref_SameInts.j9_eq] at h
  exact seg_snd Pr_mixed (hsel_sound fun x hx => by
    cases hx) h
noncomputable def corralref_SameInts.h4 (K : Value → Store → Prop) (rr4 : corralref_SameInts.R4) : Hand := hsel [(9, corralref_SameInts.d9 (corralref_SameInts.j9 K )), (4, corralref_SameInts.d4 rr4)]
theorem corralref_SameInts.b4_eq (K : Value → Store → Prop) (rr4 : corralref_SameInts.R4) (aA : Option Addr) (aN aC : Nat) (bA : Option Addr) (bN bC : Nat) (i : Int) (σ : Store) : (seg Pr corralref_SameInts.H F.corralref_SameInts corralref_SameInts.T (corralref_SameInts.h4 K rr4) K (corralref_SameInts.T 4) (Ev.cutE corralref_SameInts.H 4 [.v (.slice aA aN aC), .v (.slice bA bN bC), .v (.int .i64 i)] []) σ) = corralref_SameInts.b4 K rr4 aA aN aC bA bN bC i σ := by kernel_rfl
theorem corralref_SameInts.b4_ok (K : Value → Store → Prop) (rr4 : corralref_SameInts.R4) (hh4 : ∀ aA aN aC bA bN bC i σ, rr4 aA aN aC bA bN bC i σ → corralref_SameInts.S4 K aA aN aC bA bN bC i σ) (aA : Option Addr) (aN aC : Nat) (bA : Option Addr) (bN bC : Nat) (i : Int) (σ : Store) (h : corralref_SameInts.b4 K rr4 aA aN aC bA bN bC i σ) : corralref_SameInts.S4 K aA aN aC bA bN bC i σ := by
  rw [← corralref_SameInts.b4_eq] at h
  exact seg_snd Pr_mixed (hsel_sound fun x hx => by
    simp only [List.mem_cons, List.not_mem_nil, or_false] at hx
    rcases hx with rfl | rfl
    · exact corralref_SameInts.d9_ok fun _ h => corralref_SameInts.j9_ok K _ h
    · exact corralref_SameInts.d4_ok hh4) h
theorem corralref_SameInts.l4_ok (K : Value → Store → Prop) : ∀ (n : Nat) (aA : Option Addr) (aN aC : Nat) (bA : Option Addr) (bN bC : Nat) (i : Int) (σ : Store), corralref_SameInts.l4 K n aA aN aC bA bN bC i σ → corralref_SameInts.S4 K aA aN aC bA bN bC i σ
  | 0, _, _, _, _, _, _, _, _, h => h.elim
  | n + 1, _, _, _, _, _, _, _, _, h => corralref_SameInts.b4_ok K (corralref_SameInts.l4 K n) (corralref_SameInts.l4_ok K n) _ _ _ _ _ _ _ _ h
noncomputable def corralref_SameInts.h (K : Value → Store → Prop) : Hand := hsel [(4, corralref_SameInts.d4 fun aA aN aC bA bN bC i σ => ∃ n : Nat, corralref_SameInts.l4 K n aA aN aC bA bN bC i σ)]
theorem corralref_SameInts.m_eq (K : Value → Store → Prop) (aA : Option Addr) (aN aC : Nat) (bA : Option Addr) (bN bC : Nat) (σ : Store) : (segF Pr corralref_SameInts.H F.corralref_SameInts corralref_SameInts.T (corralref_SameInts.h K) K [.slice aA aN aC, .slice bA bN bC] σ) = corralref_SameInts.m K aA aN aC bA bN bC σ := by kernel_rfl
theorem corralref_SameInts.ok {K : Value → Store → Prop} {aA : Option Addr} {aN aC : Nat} {bA : Option Addr} {bN bC : Nat} {σ : Store} (h : corralref_SameInts.m K aA aN aC bA bN bC σ) : Spec Pr F.corralref_SameInts [.slice aA aN aC, .slice bA bN bC] σ K := by
  rw [← corralref_SameInts.m_eq] at h
  exact segF_spec Pr_mixed (hsel_sound fun x hx => by
    simp only [List.mem_cons, List.not_mem_nil, or_false] at hx
    subst hx
    exact corralref_SameInts.d4_ok fun _ _ _ _ _ _ _ _ ⟨n, h⟩ => corralref_SameInts.l4_ok K n _ _ _ _ _ _ _ _ h) h

/-! ### corral/corrallaw3.first -/
def corrallaw3_first.H : Hints := { esc := [], cuts := [] }
noncomputable def corrallaw3_first.T : Nat → List Item := stk Pr F.corrallaw3_first []
def corrallaw3_first.m (K : Value → Store → Prop) (σ : Store) : Prop :=
  Spec Pr F.isa_Decode [.int .u32 5243027] σ fun v σ_ => ∃ t8a0 : Int, ∃ t8a1 : Int, ∃ t8a2 : Int, ∃ t8a3 : Int, ∃ t8a4 : Int, ∃ t8a5 : Int, ∃ t8a6 : Bool, ∃ t8a7 : Bool, ∃ t8b : Bool, v = .tuple #[.agg #[.int .i64 t8a0, .int .i64 t8a1, .int .i64 t8a2, .int .i64 t8a3, .int .i64 t8a4, .int .u32 t8a5, .bool t8a6, .bool t8a7], .bool t8b] ∧
  Spec Pr F.isa_Decode [.int .u32 0] σ_ fun v1 σ_1 => ∃ t12a0 : Int, ∃ t12a1 : Int, ∃ t12a2 : Int, ∃ t12a3 : Int, ∃ t12a4 : Int, ∃ t12a5 : Int, ∃ t12a6 : Bool, ∃ t12a7 : Bool, ∃ t12b : Bool, v1 = .tuple #[.agg #[.int .i64 t12a0, .int .i64 t12a1, .int .i64 t12a2, .int .i64 t12a3, .int .i64 t12a4, .int .u32 t12a5, .bool t12a6, .bool t12a7], .bool t12b] ∧
  Spec Pr F.isa_Encode [.agg #[.int .i64 25, .int .i64 0, .int .i64 0, .int .i64 0, .int .i64 0, .int .u32 32, .bool false, .bool false]] σ_1 fun v2 σ_2 => ∃ t17a : Int, ∃ t17b : Value, v2 = .tuple #[.int .u32 t17a, t17b] ∧
  cond t8b
  (Spec Pr F.corralref_SameInst [.agg #[.int .i64 t8a0, .int .i64 t8a1, .int .i64 t8a2, .int .i64 t8a3, .int .i64 t8a4, .int .u32 t8a5, .bool t8a6, .bool t8a7], .agg #[.int .i64 19, .int .i64 1, .int .i64 0, .int .i64 0, .int .i64 0, .int .u32 5, .bool false, .bool false]] σ_2 fun v3 σ_3 => ∃ t24 : Bool, v3 = .bool t24 ∧
    cond t24
    (cond (!t12b)
      (Spec Pr F.corralsee_Is [t17b, .int .i64 106] σ_3 fun v4 σ_4 => ∃ t32 : Bool, v4 = .bool t32 ∧
        K (.bool t32) σ_4)
      (K (.bool false) σ_3))
    (K (.bool false) σ_3))
  (K (.bool false) σ_2)
noncomputable def corrallaw3_first.h (K : Value → Store → Prop) : Hand := hsel []
theorem corrallaw3_first.m_eq (K : Value → Store → Prop) (σ : Store) : (segF Pr corrallaw3_first.H F.corrallaw3_first corrallaw3_first.T (corrallaw3_first.h K) K [] σ) = corrallaw3_first.m K σ := by kernel_rfl
theorem corrallaw3_first.ok {K : Value → Store → Prop} {σ : Store} (h : corrallaw3_first.m K σ) : Spec Pr F.corrallaw3_first [] σ K := by
  rw [← corrallaw3_first.m_eq] at h
  exact segF_spec Pr_mixed (hsel_sound fun x hx => by
    cases hx) h

/-! ### corral/corrallaw3.IsaSays -/
def corrallaw3_IsaSays.H : Hints := { esc := [], cuts := [] }
noncomputable def corrallaw3_IsaSays.T : Nat → List Item := stk Pr F.corrallaw3_IsaSays []
def corrallaw3_IsaSays.m (K : Value → Store → Prop) (w i0 i1 i2 i3 i4 i5 : Int) (i6 i7 : Bool) (σ : Store) : Prop :=
  Spec Pr F.corrallaw3_first [] σ fun v σ_ => ∃ t14 : Bool, v = .bool t14 ∧
  cond (!t14)
  (K (.bool false) σ_)
  (Spec Pr F.isa_Decode [.int .u32 w] σ_ fun v1 σ_1 => ∃ t19a0 : Int, ∃ t19a1 : Int, ∃ t19a2 : Int, ∃ t19a3 : Int, ∃ t19a4 : Int, ∃ t19a5 : Int, ∃ t19a6 : Bool, ∃ t19a7 : Bool, ∃ t19b : Bool, v1 = .tuple #[.agg #[.int .i64 t19a0, .int .i64 t19a1, .int .i64 t19a2, .int .i64 t19a3, .int .i64 t19a4, .int .u32 t19a5, .bool t19a6, .bool t19a7], .bool t19b] ∧
    Spec Pr F.corralref1_Decode [.int .u32 w] σ_1 fun v2 σ_2 => ∃ t24a0 : Int, ∃ t24a1 : Int, ∃ t24a2 : Int, ∃ t24a3 : Int, ∃ t24a4 : Int, ∃ t24a5 : Int, ∃ t24a6 : Bool, ∃ t24a7 : Bool, ∃ t24b : Bool, v2 = .tuple #[.agg #[.int .i64 t24a0, .int .i64 t24a1, .int .i64 t24a2, .int .i64 t24a3, .int .i64 t24a4, .int .u32 t24a5, .bool t24a6, .bool t24a7], .bool t24b] ∧
    Spec Pr F.isa_Encode [.agg #[.int .i64 i0, .int .i64 i1, .int .i64 i2, .int .i64 i3, .int .i64 i4, .int .u32 i5, .bool i6, .bool i7]] σ_2 fun v3 σ_3 => ∃ t29a : Int, ∃ t29b : Value, v3 = .tuple #[.int .u32 t29a, t29b] ∧
    Spec Pr F.corralref1_Encode [.agg #[.int .i64 i0, .int .i64 i1, .int .i64 i2, .int .i64 i3, .int .i64 i4, .int .u32 i5, .bool i6, .bool i7]] σ_3 fun v4 σ_4 => ∃ t34a : Int, ∃ t34b : Int, v4 = .tuple #[.int .u32 t34a, .int .i64 t34b] ∧
    cond t14
    (cond (t19b == t24b)
      (Spec Pr F.corralref_SameInst [.agg #[.int .i64 t19a0, .int .i64 t19a1, .int .i64 t19a2, .int .i64 t19a3, .int .i64 t19a4, .int .u32 t19a5, .bool t19a6, .bool t19a7], .agg #[.int .i64 t24a0, .int .i64 t24a1, .int .i64 t24a2, .int .i64 t24a3, .int .i64 t24a4, .int .u32 t24a5, .bool t24a6, .bool t24a7]] σ_4 fun v5 σ_5 => ∃ t46 : Bool, v5 = .bool t46 ∧
        cond t46
        (cond (t29a == t34a)
          (Spec Pr F.corralsee_Is [t29b, .int .i64 t34b] σ_5 fun v6 σ_6 => ∃ t56 : Bool, v6 = .bool t56 ∧
            K (.bool t56) σ_6)
          (K (.bool false) σ_5))
        (K (.bool false) σ_5))
      (K (.bool false) σ_4))
    (K (.bool false) σ_4))
noncomputable def corrallaw3_IsaSays.h (K : Value → Store → Prop) : Hand := hsel []
theorem corrallaw3_IsaSays.m_eq (K : Value → Store → Prop) (w i0 i1 i2 i3 i4 i5 : Int) (i6 i7 : Bool) (σ : Store) : (segF Pr corrallaw3_IsaSays.H F.corrallaw3_IsaSays corrallaw3_IsaSays.T (corrallaw3_IsaSays.h K) K [.int .u32 w, .agg #[.int .i64 i0, .int .i64 i1, .int .i64 i2, .int .i64 i3, .int .i64 i4, .int .u32 i5, .bool i6, .bool i7]] σ) = corrallaw3_IsaSays.m K w i0 i1 i2 i3 i4 i5 i6 i7 σ := by kernel_rfl
theorem corrallaw3_IsaSays.ok {K : Value → Store → Prop} {w i0 i1 i2 i3 i4 i5 : Int} {i6 i7 : Bool} {σ : Store} (h : corrallaw3_IsaSays.m K w i0 i1 i2 i3 i4 i5 i6 i7 σ) : Spec Pr F.corrallaw3_IsaSays [.int .u32 w, .agg #[.int .i64 i0, .int .i64 i1, .int .i64 i2, .int .i64 i3, .int .i64 i4, .int .u32 i5, .bool i6, .bool i7]] σ K := by
  rw [← corrallaw3_IsaSays.m_eq] at h
  exact segF_spec Pr_mixed (hsel_sound fun x hx => by
    cases hx) h

/-! ### corral/corrallaw3.IsaNames -/
def corrallaw3_IsaNames.H : Hints := { esc := [], cuts := [(8, [0, 1, 5, 7], []), (11, [0, 1, 5, 7, 12, 13, 14], []), (15, [0, 1, 5, 7, 12], [])] }
noncomputable def corrallaw3_IsaNames.T : Nat → List Item := stk Pr F.corrallaw3_IsaNames [(8, [1, 1, 1, 1, 1, 1]), (11, [1, 1, 1, 1, 1, 1, 1, 1, 0, 1, 0, 0]), (15, [1, 1, 1, 1, 1, 1, 1, 1, 1])]
abbrev corrallaw3_IsaNames.R15 : Type := Int → ByteArray → Bool → Bool → Int → Store → Prop
abbrev corrallaw3_IsaNames.R11 : Type := Int → ByteArray → Bool → Bool → Int → Option Addr → Nat → Nat → Int → Store → Prop
abbrev corrallaw3_IsaNames.R8 : Type := Int → ByteArray → Bool → Bool → Store → Prop
def corrallaw3_IsaNames.d15 (g : corrallaw3_IsaNames.R15) : List AV → List (List Value) → Store → Prop
  | [.v (.int .i64 op), .v (.string name), .v (.bool ok), .v (.bool is), .v (.int .i64 want)], [], σ => g op name ok is want σ
  | _, _, _ => False
def corrallaw3_IsaNames.S15 (K : Value → Store → Prop) (op : Int) (name : ByteArray) (ok is : Bool) (want : Int) (σ : Store) : Prop := SndF Pr F.corrallaw3_IsaNames corrallaw3_IsaNames.H corrallaw3_IsaNames.T K 15 [.v (.int .i64 op), .v (.string name), .v (.bool ok), .v (.bool is), .v (.int .i64 want)] [] σ
def corrallaw3_IsaNames.j15 (K : Value → Store → Prop) (op : Int) (name : ByteArray) (ok is : Bool) (want : Int) (σ : Store) : Prop :=
  cond ok
  (Spec Pr F.isa_Op [.string name] σ fun v σ_ => ∃ t89 : Int, v = .int .i64 t89 ∧
    cond (t89 == want)
    (cond (!is)
      (K (.bool true) σ_)
      (Spec Pr F.isa_Name [.int .i64 op] σ_ fun v1 σ_1 => ∃ t98 : ByteArray, v1 = .string t98 ∧
        Spec Pr F.isa_Op [.string t98] σ_1 fun v2 σ_2 => ∃ t99 : Int, v2 = .int .i64 t99 ∧
        K (.bool (t99 == op)) σ_2))
    (K (.bool false) σ_))
  (K (.bool false) σ)
def corrallaw3_IsaNames.d11 (g : corrallaw3_IsaNames.R11) : List AV → List (List Value) → Store → Prop
  | [.v (.int .i64 op), .v (.string name), .v (.bool ok), .v (.bool is), .v (.int .i64 want), .v (.slice lA lN lC), .v (.int .i64 i)], [], σ => g op name ok is want lA lN lC i σ
  | _, _, _ => False
def corrallaw3_IsaNames.S11 (K : Value → Store → Prop) (op : Int) (name : ByteArray) (ok is : Bool) (want : Int) (lA : Option Addr) (lN lC : Nat) (i : Int) (σ : Store) : Prop := SndF Pr F.corrallaw3_IsaNames corrallaw3_IsaNames.H corrallaw3_IsaNames.T K 11 [.v (.int .i64 op), .v (.string name), .v (.bool ok), .v (.bool is), .v (.int .i64 want), .v (.slice lA lN lC), .v (.int .i64 i)] [] σ
def corrallaw3_IsaNames.b11 (K : Value → Store → Prop) (rr11 : corrallaw3_IsaNames.R11) (op : Int) (name : ByteArray) (ok is : Bool) (want : Int) (lA : Option Addr) (lN lC : Nat) (i : Int) (σ : Store) : Prop :=
  cond (decide (i < ((lN : Nat) : Int)))
  (Req (decide (0 ≤ i) && decide (i < ((lN : Nat) : Int))) (
      PtrNN lA fun t76B t76O =>
      ∃ t78 : ByteArray, cellAt σ t76B (t76O + i.toNat * 14 + 1) = some (.string t78) ∧
      cond (t78.toList == name.toList)
      (Req (decide (0 ≤ i) && decide (i < ((lN : Nat) : Int))) (
          PtrNN lA fun t83B t83O =>
          ∃ t85 : Int, cellAt σ t83B (t83O + i.toNat * 14) = some (.int .i64 t85) ∧
          Hop (corrallaw3_IsaNames.T 11) (corrallaw3_IsaNames.T 11) (rr11 op name ok is t85 lA lN lC (IntKind.wrap .i64 (i + 1)) σ)))
      (Hop (corrallaw3_IsaNames.T 11) (corrallaw3_IsaNames.T 11) (rr11 op name ok is want lA lN lC (IntKind.wrap .i64 (i + 1)) σ))))
  (Hop (corrallaw3_IsaNames.T 15) (corrallaw3_IsaNames.T 15) (corrallaw3_IsaNames.j15 K op name ok is want σ))
def corrallaw3_IsaNames.l11 (K : Value → Store → Prop) : Nat → corrallaw3_IsaNames.R11
  | 0, _, _, _, _, _, _, _, _, _, _ => False
  | n + 1, op, name, ok, is, want, lA, lN, lC, i, σ => corrallaw3_IsaNames.b11 K (corrallaw3_IsaNames.l11 K n) op name ok is want lA lN lC i σ
def corrallaw3_IsaNames.d8 (g : corrallaw3_IsaNames.R8) : List AV → List (List Value) → Store → Prop
  | [.v (.int .i64 op), .v (.string name), .v (.bool ok), .v (.bool is)], [], σ => g op name ok is σ
  | _, _, _ => False
def corrallaw3_IsaNames.S8 (K : Value → Store → Prop) (op : Int) (name : ByteArray) (ok is : Bool) (σ : Store) : Prop := SndF Pr F.corrallaw3_IsaNames corrallaw3_IsaNames.H corrallaw3_IsaNames.T K 8 [.v (.int .i64 op), .v (.string name), .v (.bool ok), .v (.bool is)] [] σ
def corrallaw3_IsaNames.j8 (K : Value → Store → Prop) (op : Int) (name : ByteArray) (ok is : Bool) (σ : Store) : Prop :=
  Spec Pr F.corralref1_Rows [] σ fun v σ_ => ∃ t67A : Option Addr, ∃ t67N : Nat, ∃ t67C : Nat, v = .slice t67A t67N t67C ∧
  Hop (corrallaw3_IsaNames.T 11) (corrallaw3_IsaNames.T 11) (∃ n : Nat, corrallaw3_IsaNames.l11 K n op name ok is 0 t67A t67N t67C 0 σ_)
def corrallaw3_IsaNames.m (K : Value → Store → Prop) (op : Int) (name : ByteArray) (σ : Store) : Prop :=
  Spec Pr F.corrallaw3_first [] σ fun v σ_ => ∃ t15 : Bool, v = .bool t15 ∧
  cond (!t15)
  (K (.bool false) σ_)
  (Spec Pr F.corralref1_Of [.int .i64 op] σ_ fun v1 σ_1 => ∃ t20a0 : Int, ∃ t20a1 : ByteArray, ∃ t20a2 : Int, ∃ t20a3 : Int, ∃ t20a4 : Int, ∃ t20a5 : Bool, ∃ t20a6 : Bool, ∃ t20a7 : Int, ∃ t20a8 : Bool, ∃ t20a9 : Bool, ∃ t20a10 : Bool, ∃ t20a11 : Bool, ∃ t20a12 : Int, ∃ t20a13 : Bool, ∃ t20b : Bool, v1 = .tuple #[.agg #[.int .i64 t20a0, .string t20a1, .int .u32 t20a2, .int .u32 t20a3, .int .u32 t20a4, .bool t20a5, .bool t20a6, .int .u8 t20a7, .bool t20a8, .bool t20a9, .bool t20a10, .bool t20a11, .int .u32 t20a12, .bool t20a13], .bool t20b] ∧
    Spec Pr F.isa_Uses [.int .i64 op] σ_1 fun v2 σ_2 => ∃ t25a : Bool, ∃ t25b : Bool, ∃ t25c : Bool, ∃ t25d : Bool, v2 = .tuple #[.bool t25a, .bool t25b, .bool t25c, .bool t25d] ∧
    Spec Pr F.isa_Name [.int .i64 op] σ_2 fun v3 σ_3 => ∃ t31 : ByteArray, v3 = .string t31 ∧
    cond (!(t31.toList == t20a1.toList))
    (K (.bool false) σ_3)
    (Spec Pr F.isa_Kind [.int .i64 op] σ_3 fun v4 σ_4 => ∃ t37 : Int, v4 = .int .i64 t37 ∧
      Spec Pr F.corralref1_Kind [.int .i64 op] σ_4 fun v5 σ_5 => ∃ t39 : Int, v5 = .int .i64 t39 ∧
      cond (t37 != t39)
      (K (.bool false) σ_5)
      (cond (!(t25a == t20a8))
        (K (.bool false) σ_5)
        (cond (!(t25b == t20a9))
          (K (.bool false) σ_5)
          (cond (!(t25c == t20a10))
            (K (.bool false) σ_5)
            (cond (!(t25d == (t20a7 != 0)))
              (K (.bool false) σ_5)
              (Hop (corrallaw3_IsaNames.T 8) (corrallaw3_IsaNames.T 8) (corrallaw3_IsaNames.j8 K op name t15 t20b σ_5))))))))
theorem corrallaw3_IsaNames.d15_ok {K : Value → Store → Prop} {g : corrallaw3_IsaNames.R15} (hg : ∀ op name ok is want σ, g op name ok is want σ → corrallaw3_IsaNames.S15 K op name ok is want σ) (vs : List AV) (bs : List (List Value)) (σ : Store) (h : corrallaw3_IsaNames.d15 g vs bs σ) : SndF Pr F.corrallaw3_IsaNames corrallaw3_IsaNames.H corrallaw3_IsaNames.T K 15 vs bs σ := by
  unfold corrallaw3_IsaNames.d15 at h
  split at h
  · exact hg _ _ _ _ _ _ h
  · exact h.elim
theorem corrallaw3_IsaNames.d11_ok {K : Value → Store → Prop} {g : corrallaw3_IsaNames.R11} (hg : ∀ op name ok is want lA lN lC i σ, g op name ok is want lA lN lC i σ → corrallaw3_IsaNames.S11 K op name ok is want lA lN lC i σ) (vs : List AV) (bs : List (List Value)) (σ : Store) (h : corrallaw3_IsaNames.d11 g vs bs σ) : SndF Pr F.corrallaw3_IsaNames corrallaw3_IsaNames.H corrallaw3_IsaNames.T K 11 vs bs σ := by
  unfold corrallaw3_IsaNames.d11 at h
  split at h
  · exact hg _ _ _ _ _ _ _ _ _ _ h
  · exact h.elim
theorem corrallaw3_IsaNames.d8_ok {K : Value → Store → Prop} {g : corrallaw3_IsaNames.R8} (hg : ∀ op name ok is σ, g op name ok is σ → corrallaw3_IsaNames.S8 K op name ok is σ) (vs : List AV) (bs : List (List Value)) (σ : Store) (h : corrallaw3_IsaNames.d8 g vs bs σ) : SndF Pr F.corrallaw3_IsaNames corrallaw3_IsaNames.H corrallaw3_IsaNames.T K 8 vs bs σ := by
  unfold corrallaw3_IsaNames.d8 at h
  split at h
  · exact hg _ _ _ _ _ h
  · exact h.elim
noncomputable def corrallaw3_IsaNames.h15 (K : Value → Store → Prop) : Hand := hsel []
theorem corrallaw3_IsaNames.j15_eq (K : Value → Store → Prop) (op : Int) (name : ByteArray) (ok is : Bool) (want : Int) (σ : Store) : (seg Pr corrallaw3_IsaNames.H F.corrallaw3_IsaNames corrallaw3_IsaNames.T (corrallaw3_IsaNames.h15 K ) K (corrallaw3_IsaNames.T 15) (Ev.cutE corrallaw3_IsaNames.H 15 [.v (.int .i64 op), .v (.string name), .v (.bool ok), .v (.bool is), .v (.int .i64 want)] []) σ) = corrallaw3_IsaNames.j15 K op name ok is want σ := by kernel_rfl
theorem corrallaw3_IsaNames.j15_ok (K : Value → Store → Prop) (op : Int) (name : ByteArray) (ok is : Bool) (want : Int) (σ : Store) (h : corrallaw3_IsaNames.j15 K op name ok is want σ) : corrallaw3_IsaNames.S15 K op name ok is want σ := by
  rw [← corrallaw3_IsaNames.j15_eq] at h
  exact seg_snd Pr_mixed (hsel_sound fun x hx => by
    cases hx) h
noncomputable def corrallaw3_IsaNames.h11 (K : Value → Store → Prop) (rr11 : corrallaw3_IsaNames.R11) : Hand := hsel [(15, corrallaw3_IsaNames.d15 (corrallaw3_IsaNames.j15 K )), (11, corrallaw3_IsaNames.d11 rr11)]
theorem corrallaw3_IsaNames.b11_eq (K : Value → Store → Prop) (rr11 : corrallaw3_IsaNames.R11) (op : Int) (name : ByteArray) (ok is : Bool) (want : Int) (lA : Option Addr) (lN lC : Nat) (i : Int) (σ : Store) : (seg Pr corrallaw3_IsaNames.H F.corrallaw3_IsaNames corrallaw3_IsaNames.T (corrallaw3_IsaNames.h11 K rr11) K (corrallaw3_IsaNames.T 11) (Ev.cutE corrallaw3_IsaNames.H 11 [.v (.int .i64 op), .v (.string name), .v (.bool ok), .v (.bool is), .v (.int .i64 want), .v (.slice lA lN lC), .v (.int .i64 i)] []) σ) = corrallaw3_IsaNames.b11 K rr11 op name ok is want lA lN lC i σ := by kernel_rfl
theorem corrallaw3_IsaNames.b11_ok (K : Value → Store → Prop) (rr11 : corrallaw3_IsaNames.R11) (hh11 : ∀ op name ok is want lA lN lC i σ, rr11 op name ok is want lA lN lC i σ → corrallaw3_IsaNames.S11 K op name ok is want lA lN lC i σ) (op : Int) (name : ByteArray) (ok is : Bool) (want : Int) (lA : Option Addr) (lN lC : Nat) (i : Int) (σ : Store) (h : corrallaw3_IsaNames.b11 K rr11 op name ok is want lA lN lC i σ) : corrallaw3_IsaNames.S11 K op name ok is want lA lN lC i σ := by
  rw [← corrallaw3_IsaNames.b11_eq] at h
  exact seg_snd Pr_mixed (hsel_sound fun x hx => by
    simp only [List.mem_cons, List.not_mem_nil, or_false] at hx
    rcases hx with rfl | rfl
    · exact corrallaw3_IsaNames.d15_ok fun _ _ _ _ _ _ h => corrallaw3_IsaNames.j15_ok K _ _ _ _ _ _ h
    · exact corrallaw3_IsaNames.d11_ok hh11) h
theorem corrallaw3_IsaNames.l11_ok (K : Value → Store → Prop) : ∀ (n : Nat) (op : Int) (name : ByteArray) (ok is : Bool) (want : Int) (lA : Option Addr) (lN lC : Nat) (i : Int) (σ : Store), corrallaw3_IsaNames.l11 K n op name ok is want lA lN lC i σ → corrallaw3_IsaNames.S11 K op name ok is want lA lN lC i σ
  | 0, _, _, _, _, _, _, _, _, _, _, h => h.elim
  | n + 1, _, _, _, _, _, _, _, _, _, _, h => corrallaw3_IsaNames.b11_ok K (corrallaw3_IsaNames.l11 K n) (corrallaw3_IsaNames.l11_ok K n) _ _ _ _ _ _ _ _ _ _ h
noncomputable def corrallaw3_IsaNames.h8 (K : Value → Store → Prop) : Hand := hsel [(11, corrallaw3_IsaNames.d11 fun op name ok is want lA lN lC i σ => ∃ n : Nat, corrallaw3_IsaNames.l11 K n op name ok is want lA lN lC i σ)]
theorem corrallaw3_IsaNames.j8_eq (K : Value → Store → Prop) (op : Int) (name : ByteArray) (ok is : Bool) (σ : Store) : (seg Pr corrallaw3_IsaNames.H F.corrallaw3_IsaNames corrallaw3_IsaNames.T (corrallaw3_IsaNames.h8 K ) K (corrallaw3_IsaNames.T 8) (Ev.cutE corrallaw3_IsaNames.H 8 [.v (.int .i64 op), .v (.string name), .v (.bool ok), .v (.bool is)] []) σ) = corrallaw3_IsaNames.j8 K op name ok is σ := by kernel_rfl
theorem corrallaw3_IsaNames.j8_ok (K : Value → Store → Prop) (op : Int) (name : ByteArray) (ok is : Bool) (σ : Store) (h : corrallaw3_IsaNames.j8 K op name ok is σ) : corrallaw3_IsaNames.S8 K op name ok is σ := by
  rw [← corrallaw3_IsaNames.j8_eq] at h
  exact seg_snd Pr_mixed (hsel_sound fun x hx => by
    simp only [List.mem_cons, List.not_mem_nil, or_false] at hx
    subst hx
    exact corrallaw3_IsaNames.d11_ok fun _ _ _ _ _ _ _ _ _ _ ⟨n, h⟩ => corrallaw3_IsaNames.l11_ok K n _ _ _ _ _ _ _ _ _ _ h) h
noncomputable def corrallaw3_IsaNames.h (K : Value → Store → Prop) : Hand := hsel [(8, corrallaw3_IsaNames.d8 (corrallaw3_IsaNames.j8 K ))]
theorem corrallaw3_IsaNames.m_eq (K : Value → Store → Prop) (op : Int) (name : ByteArray) (σ : Store) : (segF Pr corrallaw3_IsaNames.H F.corrallaw3_IsaNames corrallaw3_IsaNames.T (corrallaw3_IsaNames.h K) K [.int .i64 op, .string name] σ) = corrallaw3_IsaNames.m K op name σ := by kernel_rfl
theorem corrallaw3_IsaNames.ok {K : Value → Store → Prop} {op : Int} {name : ByteArray} {σ : Store} (h : corrallaw3_IsaNames.m K op name σ) : Spec Pr F.corrallaw3_IsaNames [.int .i64 op, .string name] σ K := by
  rw [← corrallaw3_IsaNames.m_eq] at h
  exact segF_spec Pr_mixed (hsel_sound fun x hx => by
    simp only [List.mem_cons, List.not_mem_nil, or_false] at hx
    subst hx
    exact corrallaw3_IsaNames.d8_ok fun _ _ _ _ _ h => corrallaw3_IsaNames.j8_ok K _ _ _ _ _ h) h

end Go.Ev
