/-
  The errors of package api: where they lie, and what the statements' helpers say of them.
  Conditions: none.
-/
import Derived.Test.YtohkplmfihhhnaaDoorPu
import Derived.Test.YtohkplmfihhhnaaDoorFe
set_option linter.unusedVariables false
namespace Go.Ev
open Go

abbrev errV (p : Nat × Nat) : Value := .iface Ty.P_errors_errorString (.pointer (some ⟨p.1, p.2, none⟩))

/-- An error, or none. -/
def errO (E : Nat → Nat × Nat) : Option (_root_.Fin 11) → Value
  | none => .nilIface
  | some k => errV (E k)

theorem ifaceNil_errO {E : Nat → Nat × Nat} {o : Option (_root_.Fin 11)} {K : Bool → Prop} (h : K o.isNone) : IfaceNil (errO E o) K := by
  cases o <;> exact h

/-- The package's errors lie there, each at a place of its own. -/
structure Errs (σ : Store) (E : Nat → Nat × Nat) : Prop where
  many : cellAt σ G.api_ErrMany 0 = some (errV (E 0))
  kind : cellAt σ G.api_ErrKind 0 = some (errV (E 1))
  place : cellAt σ G.api_ErrPlace 0 = some (errV (E 2))
  shape : cellAt σ G.api_ErrShape 0 = some (errV (E 3))
  word : cellAt σ G.api_ErrWord 0 = some (errV (E 4))
  range : cellAt σ G.api_ErrRange 0 = some (errV (E 5))
  full : cellAt σ G.api_ErrFull 0 = some (errV (E 6))
  none_ : cellAt σ G.api_ErrNone 0 = some (errV (E 7))
  trace : cellAt σ G.api_ErrTrace 0 = some (errV (E 8))
  order : cellAt σ G.api_ErrOrder 0 = some (errV (E 9))
  value : cellAt σ G.api_ErrValue 0 = some (errV (E 10))
  blk : ∀ k, k < 11 → ∃ b, σ (E k).1 = some b ∧ b.fz = (0, 0)
  ne : ∀ i j, i < 11 → j < 11 → i ≠ j → E i ≠ E j

theorem cellAt_le {σ σ' : Store} (h : σ.le σ') {b o : Nat} {v : Value} (hc : cellAt σ b o = some v) : cellAt σ' b o = some v := by
  unfold cellAt at *
  cases e : σ b with
  | none => rw [e] at hc; cases hc
  | some k => rw [e] at hc; rw [h b k e]; exact hc

theorem cellsAt_le {σ σ' : Store} (h : σ.le σ') {b o n : Nat} {v : List Value} (hc : cellsAt σ b o n = some v) : cellsAt σ' b o n = some v := by
  unfold cellsAt at *
  cases e : σ b with
  | none => rw [e] at hc; cases hc
  | some k => rw [e] at hc; rw [h b k e]; exact hc

theorem Errs.le {σ σ' : Store} {E : Nat → Nat × Nat} (h : Errs σ E) (hl : σ.le σ') : Errs σ' E :=
  ⟨cellAt_le hl h.many, cellAt_le hl h.kind, cellAt_le hl h.place, cellAt_le hl h.shape, cellAt_le hl h.word, cellAt_le hl h.range, cellAt_le hl h.full, cellAt_le hl h.none_, cellAt_le hl h.trace, cellAt_le hl h.order, cellAt_le hl h.value,
    fun k hk => (h.blk k hk).imp fun b hb => ⟨hl _ _ hb.1, hb.2⟩, h.ne⟩

abbrev vC (v : Value) : List Value := [v]
theorem vC_len (v : Value) : (vC v).length = 1 := rfl

def errL (E : Nat → Nat × Nat) : List Value := [errV (E 0), errV (E 1), errV (E 2), errV (E 3), errV (E 4), errV (E 5), errV (E 6), errV (E 7), errV (E 8), errV (E 9), errV (E 10)]
theorem errL_get (E : Nat → Nat × Nat) : ∀ (i : Nat) (h : i < (errL E).length), (errL E)[i] = errV (E i)
  | 0, _ | 1, _ | 2, _ | 3, _ | 4, _ | 5, _ | 6, _ | 7, _ | 8, _ | 9, _ | 10, _ => rfl
  | n + 11, h => absurd h (by simp [errL])

theorem sentinels_spec {σ : Store} {E : Nat → Nat × Nat} (h : Errs σ E) {K : Value → Store → Prop} (hK : ∀ a σ', IsL vC 1 σ' a 11 (errL E) → σ.le σ' → K (.slice a 11 11) σ') : Spec Pr F.corralsee_sentinels [] σ K := by
  refine corralsee_sentinels.ok ⟨_, h.many, _, h.kind, _, h.place, _, h.shape, _, h.word, _, h.range, _, h.full, _, h.none_, _, h.trace, _, h.order, _, h.value, rq rfl ?_⟩
  intro b hb
  exact hK _ _ (IsL.new vC_len (errL E) rfl rfl) (le_new _ hb)

theorem alike_pur {σ : Store} {E : Nat → Nat × Nat} (h : Errs σ E) {i j : Nat} (hi : i < 11) (hj : j < 11) : Pur Pr F.corralsee_Alike [errV (E i), errV (E j)] σ (.bool (i == j)) := fun K hK => by
  obtain ⟨bi, h1, h2⟩ := h.blk i hi
  obtain ⟨bj, h3, h4⟩ := h.blk j hj
  refine corralsee_Alike.ok (hopI (cond_f rfl (hopI ⟨bi, bj, h1, h3, h2, h4, ?_⟩)))
  refine leaf hK (congrArg Value.bool ?_)
  by_cases e : i = j
  · subst e; simp
  · have := h.ne i j hi hj e
    have e2 : (i == j) = false := by simp [e]
    rw [e2]
    refine decide_eq_false fun hh => this ?_
    rw [Addr.mk.injEq] at hh
    exact Prod.ext hh.1 hh.2.1

theorem sentinel_loop {σ : Store} {E : Nat → Nat × Nat} (h : Errs σ E) {a : Option Addr} {c : Nat} (hl : IsL vC 1 σ a 11 (errL E)) {k : Nat} (hk : k < 11) {K : Value → Store → Prop} (hK : K (.int .i64 (101 + (k : Int))) σ) :
    ∀ (r i : Nat), i + r = k → corralsee_sentinel.l3 K (r + 1) (E k).1 (E k).2 a 11 c (i : Int) σ
  | 0, i, hi => by
    obtain rfl : i = k := by omega
    refine cond_t (by simp; omega) (hl.at1 (e := fun v => v) i rfl (by show i < 11; omega) fun B O hc => ⟨_, hc, ?_⟩)
    rw [errL_get]
    refine alike_pur h hk hk _ ⟨_, rfl, cond_t (by simp) ?_⟩
    rw [wrap_id (by omega) (by omega)]
    exact hK
  | r + 1, i, hi => by
    refine cond_t (by simp; omega) (hl.at1 (e := fun v => v) i rfl (by show i < 11; omega) fun B O hc => ⟨_, hc, ?_⟩)
    rw [errL_get]
    refine alike_pur h hk (by omega) _ ⟨_, rfl, cond_f (by simp; omega) (hopI ?_)⟩
    rw [wrap_succ (by omega)]
    exact sentinel_loop h hl hk hK r (i + 1) (by omega)

theorem sentinel_pur {σ : Store} {E : Nat → Nat × Nat} (h : Errs σ E) {k : Nat} (hk : k < 11) : Pur Pr F.corralsee_sentinel [errV (E k)] σ (.int .i64 (101 + (k : Int))) := by
  refine Pur.le (corralsee_sentinel.ok (sentinels_spec h fun a σ' hl hle => ⟨_, _, _, rfl, hopI ⟨k + 1, ?_⟩⟩))
  exact sentinel_loop (h.le hle) hl hk ⟨rfl, hle⟩ k 0 (by omega)

abbrev faultV (code : Int) : Value := .agg #[.int .i64 code, .slice none 0 0]

theorem bare_pur (σ : Store) (code : Int) : Pur Pr F.corralref_Bare [.int .i64 code] σ (faultV code) := fun K hK => corralref_Bare.ok hK

theorem Fault_e_pur {σ : Store} {E : Nat → Nat × Nat} (h : Errs σ E) {k : Nat} (hk : k < 11) : Pur Pr F.corralsee_Fault [errV (E k)] σ (faultV (101 + (k : Int))) := fun K hK => by
  refine corralsee_Fault_e.ok (corralsee_fault.ok (cond_f rfl (hopI ?_)))
  exact sentinel_pur h hk _ ⟨_, rfl, bare_pur _ _ _ ⟨_, _, _, _, rfl, ⟨_, _, _, _, rfl, hK⟩⟩⟩

theorem Fault_n_pur (σ : Store) : Pur Pr F.corralsee_Fault [.nilIface] σ (faultV 0) := fun K hK =>
  corralsee_Fault_n.ok (corralref_None.ok ⟨_, _, _, _, rfl, hK⟩)

theorem sameFault_pur (σ : Store) (a b : Int) : Pur Pr F.corralref_SameFault [faultV a, faultV b] σ (.bool (a == b)) := fun K hK => by
  refine corralref_SameFault.ok (corralref_SameInts.ok (cond_f rfl (hopI ⟨1, ?_⟩)))
  unfold corralref_SameInts.l4 corralref_SameInts.b4
  refine cond_f rfl (hopI ?_)
  refine ⟨_, rfl, ?_⟩
  cases e : (a == b)
  · rw [e] at hK; exact hK
  · rw [e] at hK; exact hK

theorem Is_e_pur {σ : Store} {E : Nat → Nat × Nat} (h : Errs σ E) {k : Nat} (hk : k < 11) (code : Int) : Pur Pr F.corralsee_Is [errV (E k), .int .i64 code] σ (.bool (101 + (k : Int) == code)) := fun K hK => by
  refine corralsee_Is_e.ok (bare_pur _ _ _ ⟨_, _, _, _, rfl, corralsee_Same_e.ok (Fault_e_pur h hk _ ⟨_, _, _, _, rfl, sameFault_pur _ _ _ _ ⟨_, rfl, ⟨_, rfl, hK⟩⟩⟩)⟩)

theorem Is_n_pur (σ : Store) (code : Int) : Pur Pr F.corralsee_Is [.nilIface, .int .i64 code] σ (.bool ((0 : Int) == code)) := fun K hK => by
  refine corralsee_Is_n.ok (bare_pur _ _ _ ⟨_, _, _, _, rfl, corralsee_Same_n.ok (Fault_n_pur _ _ ⟨_, _, _, _, rfl, sameFault_pur _ _ _ _ ⟨_, rfl, ⟨_, rfl, hK⟩⟩⟩)⟩)
def corralsee_Is.v (o : Option (_root_.Fin 11)) (code : Int) : Bool := match o with | none => (0 : Int) == code | some k => 101 + (k.val : Int) == code

theorem corralsee_Is.pur (o : Option (_root_.Fin 11)) (code : Int) (σ : Store) {E : Nat → Nat × Nat} (hE : Errs σ E) : Pur Pr F.corralsee_Is [errO E o, .int .i64 code] σ (.bool (corralsee_Is.v o code)) := by
  cases o with
  | none => exact Is_n_pur σ code
  | some k => exact Is_e_pur hE k.isLt code
end Go.Ev
