/-
  CacheOld, the plain law: lines by when they were used last.
  Conditions: none.
-/
import Derived.Test.YtohkplmfihhhnaaDoorCs
set_option linter.unusedVariables false
set_option linter.unusedSimpArgs false
set_option maxRecDepth 100000
namespace Go.Ev
open Go

def ent (k : Nat) : Ent := ⟨4 * (k : Int), 1, 0, 0, 0, 0⟩
def MO (l : List Nat) : Sets := [l.map ent, [], [], []]

theorem ent_line (k j : Nat) : ((ent k).line == 4 * (j : Int)) = (k == j) := by
  rw [Bool.eq_iff_iff, beq_iff_eq, beq_iff_eq]; unfold ent; dsimp only; omega

theorem setOf_MO (l : List Nat) (k : Nat) : setOf (MO l) (4 * (k : Int)) = l.map ent := by
  have : (4 * (k : Int)).toNat % (MO l).length = 0 := by show (4 * (k : Int)).toNat % 4 = 0; omega
  rw [setOf, this]; rfl

theorem find_ent (l : List Nat) (k : Nat) : (l.map ent).find? (fun e => e.line == 4 * (k : Int)) = if k ∈ l then some (ent k) else none := by
  induction l with
  | nil => rfl
  | cons a l ih =>
    rw [List.map_cons, List.find?_cons, ent_line]
    by_cases h : a = k
    · subst h; simp
    · have : (a == k) = false := by simp [h]
      rw [this, ih]
      simp [Ne.symm h]

theorem findM_MO (l : List Nat) (k : Nat) : findM (MO l) (4 * (k : Int)) = if k ∈ l then some (ent k) else none := by
  unfold findM; rw [if_neg (by omega), setOf_MO, find_ent]

theorem erase_ent (l : List Nat) (k : Nat) : (l.map ent).eraseP (fun e => e.line == 4 * (k : Int)) = (l.erase k).map ent := by
  induction l with
  | nil => rfl
  | cons a l ih =>
    rw [List.map_cons, List.eraseP_cons, ent_line, List.erase_cons]
    cases a == k
    · simp [ih]
    · rfl

theorem turnM_MO (l : List Nat) (k : Nat) : turnM (MO l) (ent k) = MO (l.erase k ++ [k]) := by
  have h : (ent k).line.toNat % (MO l).length = 0 := by show (4 * (k : Int)).toNat % 4 = 0; omega
  unfold turnM
  rw [h]
  show (MO l).set 0 ((setOf (MO l) (4 * (k : Int))).eraseP (fun e => e.line == 4 * (k : Int)) ++ [ent k]) = _
  rw [setOf_MO, erase_ent]
  unfold MO
  simp

theorem dropM_MO (l : List Nat) (k : Nat) : dropM (MO l) (4 * (k : Int)) = MO (l.erase k) := by
  have h : (4 * (k : Int)).toNat % (MO l).length = 0 := by show (4 * (k : Int)).toNat % 4 = 0; omega
  unfold dropM
  rw [h, setOf_MO, erase_ent]
  rfl

theorem victim_MO (l : List Nat) (k : Nat) : victimM (MO l) (4 * (k : Int)) [] = l.head?.map ent := by
  unfold victimM
  rw [if_neg (by omega), setOf_MO]
  cases l <;> simp

theorem put_MO (l : List Nat) (w : Int) (k : Nat) (h : (l.length : Int) < w) : putRes (MO l) w (ent k) = none := by
  unfold putRes
  rw [if_neg (by unfold ent; dsimp only; omega), if_neg (by unfold ent; dsimp only; omega)]
  have : roomM (MO l) w (ent k).line = true := by
    unfold roomM
    show (decide (4 * (k : Int) ≥ 0) && ((findM (MO l) (4 * (k : Int))).isSome || decide (((setOf (MO l) (4 * (k : Int))).length : Int) < w))) = true
    rw [setOf_MO, List.length_map, decide_eq_true h]
    simp; omega
  rw [this]; rfl

structure OI (l : List Nat) (lt : List Int) (w : Nat) (t : Int) : Prop where
  nd : l.Nodup
  lo : ∀ k ∈ l, k < w
  pw : l.Pairwise fun a b => lt.getD a 0 < lt.getD b 0
  top : ∀ k ∈ l, lt.getD k 0 < t
  len : lt.length = w

theorem getD_set (lt : List Int) (k : Nat) (v : Int) (h : k < lt.length) (a : Nat) : (lt.set k v).getD a 0 = if a = k then v else lt.getD a 0 := by
  simp only [List.getD_eq_getElem?_getD, List.getElem?_set]
  by_cases e : k = a
  · subst e; simp [h]
  · simp [e, Ne.symm e]

theorem OI.touch {l : List Nat} {lt : List Int} {w : Nat} {t : Int} (h : OI l lt w t) (k : Nat) (hk : k < w) : OI (l.erase k ++ [k]) (lt.set k t) w (t + 1) := by
  have hkl : k < lt.length := by rw [h.len]; exact hk
  have hne : ∀ a ∈ l.erase k, a ≠ k ∧ a ∈ l := fun a ha => ⟨fun e => h.nd.not_mem_erase (e ▸ ha), List.mem_of_mem_erase ha⟩
  refine ⟨?_, ?_, ?_, ?_, by rw [List.length_set]; exact h.len⟩
  · refine List.nodup_append.2 ⟨h.nd.erase _, by simp, fun a ha b hb => ?_⟩
    rw [List.mem_singleton] at hb; subst hb
    exact (hne a ha).1
  · intro a ha
    rw [List.mem_append, List.mem_singleton] at ha
    rcases ha with ha | rfl
    · exact h.lo a (hne a ha).2
    · exact hk
  · rw [List.pairwise_append]
    refine ⟨?_, by simp, fun a ha b hb => ?_⟩
    · have hp : (l.erase k).Pairwise fun a b => lt.getD a 0 < lt.getD b 0 := h.pw.sublist (List.erase_sublist ..)
      refine hp.imp_of_mem fun {a b} ha hb hab => ?_
      rw [getD_set _ _ _ hkl, getD_set _ _ _ hkl, if_neg (hne a ha).1, if_neg (hne b hb).1]; exact hab
    · rw [List.mem_singleton] at hb; subst hb
      rw [getD_set _ _ _ hkl, getD_set _ _ _ hkl, if_neg (hne a ha).1, if_pos rfl]
      exact h.top a (hne a ha).2
  · intro a ha
    rw [List.mem_append, List.mem_singleton] at ha
    rw [getD_set _ _ _ hkl]
    rcases ha with ha | rfl
    · rw [if_neg (hne a ha).1]; have := h.top a (hne a ha).2; omega
    · rw [if_pos rfl]; omega

theorem OI.tail {v : Nat} {l : List Nat} {lt : List Int} {w : Nat} {t : Int} (h : OI (v :: l) lt w t) : OI l lt w t :=
  ⟨(List.nodup_cons.1 h.nd).2, fun k hk => h.lo k (List.mem_cons_of_mem _ hk), (List.pairwise_cons.1 h.pw).2, fun k hk => h.top k (List.mem_cons_of_mem _ hk), h.len⟩

theorem OI.oldest {v : Nat} {l : List Nat} {lt : List Int} {w : Nat} {t : Int} (h : OI (v :: l) lt w t) (i : Nat) (hi : i ∈ v :: l) : ¬ lt.getD i 0 < lt.getD v 0 := by
  rcases List.mem_cons.1 hi with rfl | hi
  · omega
  · have := (List.pairwise_cons.1 h.pw).1 i hi
    omega

/-! ### Number -/
def numF (n b : Int) : Int := Int.tmod (Int.tmod n b + b) b
theorem num_rng (n b : Int) (hb : 0 < b) : 0 ≤ numF n b ∧ numF n b < b := by
  have h1 : -b < Int.tmod n b := by
    have := Int.lt_tmod_of_pos n hb
    omega
  have h2 := Int.tmod_lt_of_pos n hb
  unfold numF
  refine ⟨Int.tmod_nonneg b (by omega), Int.tmod_lt_of_pos _ hb⟩
theorem num_pur (σ : Store) (n b : Int) (hb : 0 < b) (hb8 : b ≤ 1000) : Pur Pr F.corralworld_Number [.int .i64 n, .int .i64 b] σ (.int .i64 (numF n b)) := fun K hK => by
  have h1 : -b < Int.tmod n b := by
    have := Int.lt_tmod_of_pos n hb
    omega
  have h2 := Int.tmod_lt_of_pos n hb
  refine corralworld_Number.ok (rq (by simp; omega) (rq (by simp; omega) ?_))
  rw [wrap_id (by omega) (by omega)]
  exact hK
end Go.Ev
