/-
  The cache: what the library's functions on slices of entries do.
  Conditions: none.
-/
import Derived.Test.YtohkplmfihhhnaaDoorFs
import Derived.Test.YtohkplmfihhhnaaDoorPu
set_option linter.unusedVariables false
set_option linter.unusedSimpArgs false
set_option maxRecDepth 100000
namespace Go.Ev
open Go

structure Ent where
  line : Int
  state : Int
  a : Int
  b : Int
  c : Int
  d : Int
  deriving DecidableEq

abbrev Ent.cells (e : Ent) : List Value := [.int .i64 e.line, .int .i64 e.state, .int .u32 e.a, .int .u32 e.b, .int .u32 e.c, .int .u32 e.d]
abbrev Ent.agg (e : Ent) : Value := .agg #[.int .i64 e.line, .int .i64 e.state, .int .u32 e.a, .int .u32 e.b, .int .u32 e.c, .int .u32 e.d]
def Ent.z : Ent := ⟨0, 0, 0, 0, 0, 0⟩

theorem entLen (e : Ent) : e.cells.length = 6 := rfl
theorem entOne (e : Ent) : e.cells.all one = true := rfl

/-! ### slices.IndexFunc with the closure of 'at' -/
def idxE (line : Int) : Int → List Ent → Int
  | _, [] => -1
  | i, e :: l => bif e.line == line then i else idxE line (i + 1) l

theorem ifn_loop {σ : Store} {a : Option Addr} {n c : Nat} {xs : List Ent} (h : IsL Ent.cells 6 σ a n xs) (hn : xs.length < 4611686018427387904) {fB fO : Nat} {line : Int} (hf : cellAt σ fB fO = some (.int .i64 line))
    {K : Value → Store → Prop} : ∀ (r i : Nat), i + r = xs.length → K (.int .i64 (idxE line i (xs.drop i))) σ → slices_IndexFunc.l2 K (r + 1) a n c fB fO ((n : Nat) : Int) (i : Int) σ
  | 0, i, hi, hK => by
    refine cond_f (by simp [h.1]; omega) (hopI ?_)
    rw [List.drop_of_length_le (by omega)] at hK
    exact hK
  | r + 1, i, hi, hK => by
    rw [List.drop_eq_getElem_cons (by omega)] at hK
    refine cond_t (by simp [h.1]; omega) (h.at entLen i rfl (by omega) fun B O hc => ⟨_, _, _, _, _, _, hc, ?_⟩)
    refine cache_Cache_at_1.ok ⟨_, hf, _, rfl, ?_⟩
    unfold idxE at hK
    refine cond_i (fun e => ?_) (fun e => hopI ?_)
    · rw [e, cond_true] at hK; exact hK
    · rw [e, cond_false] at hK
      show slices_IndexFunc.l2 K (r + 1) a n c fB fO _ _ σ
      rw [wrap_succ (by omega)]
      exact ifn_loop h hn hf r (i + 1) (by omega) hK

theorem indexFunc_pur {σ : Store} {a : Option Addr} {n c : Nat} {xs : List Ent} (h : IsL Ent.cells 6 σ a n xs) (hn : xs.length < 4611686018427387904) {fB fO : Nat} {line : Int} (hf : cellAt σ fB fO = some (.int .i64 line)) :
    Pur Pr F.slices_IndexFunc [.slice a n c, .func (.func F.cache_Cache_at_1) #[] #[.pointer (some ⟨fB, fO, none⟩)]] σ (.int .i64 (idxE line 0 xs)) := fun K hK =>
  slices_IndexFunc.ok (hopI ⟨_, ifn_loop h hn hf xs.length 0 (by omega) hK⟩)

theorem idxE_spec (line : Int) : ∀ (l : List Ent) (i : Int), (idxE line i l = -1 ∧ l.find? (fun e => e.line == line) = none ∧ l.eraseP (fun e => e.line == line) = l) ∨
    ∃ (k : Nat) (h : k < l.length), idxE line i l = i + k ∧ l.find? (fun e => e.line == line) = some l[k] ∧ l.eraseIdx k = l.eraseP (fun e => e.line == line)
  | [], i => .inl ⟨rfl, rfl, rfl⟩
  | e :: l, i => by
    unfold idxE
    cases he : (e.line == line)
    · rw [cond_false]
      rcases idxE_spec line l (i + 1) with ⟨h1, h2, h3⟩ | ⟨k, hk, h1, h2, h3⟩
      · left
        refine ⟨h1, ?_, ?_⟩
        · rw [List.find?_cons, he]; exact h2
        · rw [List.eraseP_cons, he]; simp only [cond_false]; rw [h3]
      · right
        refine ⟨k + 1, by simp only [List.length_cons]; omega, by rw [h1]; omega, ?_, ?_⟩
        · rw [List.find?_cons, he]; exact h2
        · rw [List.eraseP_cons, he]; simp only [cond_false, List.eraseIdx_cons_succ]; rw [h3]
    · rw [cond_true]
      right
      refine ⟨0, by simp, by omega, ?_, ?_⟩
      · rw [List.find?_cons, he]; rfl
      · rw [List.eraseP_cons, he]; rfl

/-! ### slices.Index, slices.Contains on ints -/
abbrev iC (x : Int) : List Value := [.int .i64 x]

def idxI (v : Int) : Int → List Int → Int
  | _, [] => -1
  | i, b :: bs => bif v == b then i else idxI v (i + 1) bs

theorem idxI_ge (v : Int) : ∀ (bs : List Int) (i : Nat), decide (idxI v i bs ≥ 0) = bs.contains v
  | [], i => by simp [idxI]
  | b :: bs, i => by
    unfold idxI
    have ih := idxI_ge v bs (i + 1)
    by_cases h : v = b
    · subst h; simp
    · have h1 : (v == b) = false := by simp [h]
      rw [h1, cond_false]
      simp only [List.contains_cons, h1, Bool.false_or]
      rw [← ih]; rfl

theorem index_loop {σ : Store} {a : Option Addr} {n c : Nat} {xs : List Int} (h : IsL iC 1 σ a n xs) (hn : xs.length < 4611686018427387904) (v : Int) {K : Value → Store → Prop} :
    ∀ (r i : Nat), i + r = xs.length → K (.int .i64 (idxI v i (xs.drop i))) σ → slices_Index.l2 K (r + 1) a n c v ((n : Nat) : Int) (i : Int) σ
  | 0, i, hi, hK => by
    refine cond_f (by simp [h.1]; omega) (hopI ?_)
    rw [List.drop_of_length_le (by omega)] at hK
    exact hK
  | r + 1, i, hi, hK => by
    rw [List.drop_eq_getElem_cons (by omega)] at hK
    refine cond_t (by simp [h.1]; omega) (h.at1 (e := fun x => Value.int .i64 x) i rfl (by omega) fun B O hc => ⟨_, hc, ?_⟩)
    unfold idxI at hK
    refine cond_i (fun e => ?_) (fun e => hopI ?_)
    · rw [e, cond_true] at hK; exact hK
    · rw [e, cond_false] at hK
      show slices_Index.l2 K (r + 1) a n c v _ _ σ
      rw [wrap_succ (by omega)]
      exact index_loop h hn v r (i + 1) (by omega) hK

theorem contains_pur {σ : Store} {a : Option Addr} {n c : Nat} {xs : List Int} (h : IsL iC 1 σ a n xs) (hn : xs.length < 4611686018427387904) (v : Int) :
    Pur Pr F.slices_Contains [.slice a n c, .int .i64 v] σ (.bool (xs.contains v)) := fun K hK => by
  refine slices_Contains.ok (slices_Index.ok (hopI ⟨_, index_loop h hn v xs.length 0 (by omega) ⟨_, rfl, ?_⟩⟩))
  rw [List.drop_zero, idxI_ge]; exact hK

/-! ### slices.Clone -/
theorem clone_spec {σ : Store} {a : Option Addr} {n c : Nat} {xs : List Ent} (h : IsL Ent.cells 6 σ a n xs) (hn : n ≤ 1000000) {K : Value → Store → Prop}
    (hK : ∀ a' n' c' σ', Own Ent.cells 6 σ σ' a' n' c' xs → σ.le σ' → K (.slice a' n' c') σ') : Spec Pr F.slices_Clone [.slice a n c] σ K := by
  refine slices_Clone.ok (cond_i (fun e => ?_) (fun e => fun b hb => ?_))
  · have : xs = [] := by
      obtain ⟨h1, h2⟩ := h
      rcases Nat.eq_zero_or_pos n with h3 | h3
      · exact List.eq_nil_of_length_eq_zero (by omega)
      · obtain ⟨_, _, _, h4, _⟩ := h2 (by omega); subst h4; simp at e
    subst this
    exact hK _ _ _ _ (Own.nil _ _ _ _) (Store.le_rfl)
  · have hle : σ.le (σ.set b ⟨59, [], (0, 0)⟩) := fun i k hi => by rw [set_diff (by rintro rfl; rw [hb] at hi; cases hi)]; exact hi
    refine ⟨_, (h.mono hle).src, Own.app (enc := Ent.cells) entLen entOne (σ0 := σ) (xs := []) ⟨rfl, Nat.le_refl _, fun h0 => absurd rfl h0⟩ (fun i hi => ?_) rfl rfl h.1 (by simp; omega) (by simp; omega) fun a' n' c' σ' ho hk => hK _ _ _ _ (by simpa using ho) fun i k hi => ?_⟩
    · obtain ⟨k, hk⟩ := Option.ne_none_iff_exists'.1 hi
      rw [hle i k hk]; simp
    · rw [hk.same i (by rw [hi]; simp)]; exact hle i k hi

/-! ### slices.Grow of nothing -/
theorem grow_spec {σ : Store} (n : Nat) (hn : n ≤ 1000000) {K : Value → Store → Prop}
    (hK : ∀ a' c' σ', Own Ent.cells 6 σ σ' a' 0 c' [] → σ.le σ' → K (.slice a' 0 c') σ') : Spec Pr F.slices_Grow [.slice none 0 0, .int .i64 (n : Int)] σ K := by
  have hw0 : IntKind.wrap .i64 (((0 : Nat) : Int) - ((0 : Nat) : Int)) = 0 := rfl
  have hw : IntKind.wrap .i64 ((n : Int) - (IntKind.wrap .i64 (((0 : Nat) : Int) - ((0 : Nat) : Int)))) = (n : Int) := by rw [hw0, wrap_id (by omega) (by omega)]; omega
  refine slices_Grow.ok (cond_f (by simp) (hopI ?_))
  unfold slices_Grow.j3
  rw [hw]
  refine cond_i (fun e => rq rfl ⟨by omega, by omega, by omega, fun h0 => ?_, fun _ h0 => ?_, fun h0 _ => ⟨by simp; omega, by simp; omega, [], rfl, fun c' b hc hb => rq (by simp [okIdx]) (hK _ _ _ ⟨rfl, by omega, fun _ => ?_⟩ ?_)⟩⟩) (fun e => hK _ _ _ (Own.nil _ _ _ _) Store.le_rfl)
  · simp at e; omega
  · simp at e h0; omega
  · have hs : slAddr (some (⟨b, 0, none⟩ : Addr)) 0 c' 6 = some ⟨b, 0, none⟩ := by unfold slAddr; split <;> rfl
    refine ⟨b, 0, _, hs, hb, set_eq, rfl, ?_, by simp⟩
    simp only [List.nil_append, List.length_append, zeroN, List.length_flatten, List.map_replicate, List.sum_replicate_nat, List.length_cons, List.length_nil]
    simp at hc ⊢
    omega
  · exact fun i k hi => by rw [set_diff (by rintro rfl; rw [hb] at hi; cases hi)]; exact hi
end Go.Ev
