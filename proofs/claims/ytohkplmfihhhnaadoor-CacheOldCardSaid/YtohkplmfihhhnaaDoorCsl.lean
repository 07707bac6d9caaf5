/-
  CacheSets, the plain law: what is there, by the sets and by the list.
  Conditions: none.
-/
import Derived.Test.YtohkplmfihhhnaaDoorCa6
set_option linter.unusedVariables false
set_option linter.unusedSimpArgs false
set_option maxRecDepth 100000
namespace Go.Ev
open Go

theorem insU_mem (x y : Int) : ∀ l : List Int, y ∈ insU x l ↔ y = x ∨ y ∈ l
  | [] => by simp [insU]
  | z :: l => by
    unfold insU
    cases h : decide (z < x)
    · cases h2 : (z == x)
      · simp
      · simp at h2; subst h2; simp
    · rw [cond_true, List.mem_cons, insU_mem x y l, List.mem_cons]
      constructor
      · rintro (h | h | h) <;> simp [h]
      · rintro (h | h | h) <;> simp [h]

theorem insU_up (x : Int) : ∀ l : List Int, l.Pairwise (· < ·) → (insU x l).Pairwise (· < ·)
  | [], _ => by simp [insU]
  | z :: l, h => by
    rw [List.pairwise_cons] at h
    unfold insU
    cases h1 : decide (z < x)
    · simp at h1
      cases h2 : (z == x)
      · simp at h2
        rw [cond_false, cond_false, List.pairwise_cons, List.pairwise_cons]
        refine ⟨fun y hy => ?_, h.1, h.2⟩
        rcases List.mem_cons.1 hy with rfl | hy
        · omega
        · have := h.1 y hy; omega
      · rw [cond_false, cond_true, List.pairwise_cons]; exact h
    · simp at h1
      rw [cond_true, List.pairwise_cons]
      refine ⟨fun y hy => ?_, insU_up x l h.2⟩
      rcases (insU_mem x y l).1 hy with rfl | hy
      · exact h1
      · exact h.1 y hy

theorem fold_insU : ∀ (l o : List Int), o.Pairwise (· < ·) → (l.foldl (fun o x => insU x o) o).Pairwise (· < ·) ∧ ∀ y, y ∈ l.foldl (fun o x => insU x o) o ↔ y ∈ o ∨ y ∈ l
  | [], o, h => ⟨h, fun y => by simp⟩
  | x :: l, o, h => by
    obtain ⟨h1, h2⟩ := fold_insU l (insU x o) (insU_up x o h)
    refine ⟨h1, fun y => ?_⟩
    rw [List.foldl_cons, h2, insU_mem, List.mem_cons]
    constructor
    · rintro ((h | h) | h) <;> simp [h]
    · rintro (h | h | h) <;> simp [h]

theorem sortU_up (l : List Int) : (sortU l).Pairwise (· < ·) := (fold_insU l [] (by simp)).1
theorem sortU_mem (l : List Int) (y : Int) : y ∈ sortU l ↔ y ∈ l := by
  have := (fold_insU l [] (by simp)).2 y
  rw [sortU, this]; simp

theorem up_nodup {l : List Int} (h : l.Pairwise (· < ·)) : l.Nodup := h.imp fun h => by omega

abbrev lns (l : List Ent) : List Int := l.map (·.line)
theorem lns_len (l : List Ent) : (lns l).length = l.length := List.length_map _

structure Inv (M : Sets) (th : List Int) : Prop where
  hM : M.length = 4
  up : th.Pairwise (· < ·)
  ge : ∀ x ∈ th, 0 ≤ x
  nd : ∀ i, i < 4 → (lns (M.getD i [])).Nodup
  mem : ∀ i, i < 4 → ∀ x, x ∈ lns (M.getD i []) ↔ x ∈ th ∧ x % 4 = i

def cntL (k : Int) (l : List Int) : Nat := (l.filter fun x => Int.tmod x 4 == Int.tmod k 4).length

theorem setOf_eq {M : Sets} {th : List Int} (h : Inv M th) (k : Int) : setOf M k = M.getD (k.toNat % 4) [] := by rw [setOf, h.hM]

theorem Inv.cnt {M : Sets} {th : List Int} (h : Inv M th) (k : Int) (hk : 0 ≤ k) : (setOf M k).length = cntL k th := by
  have hi : k.toNat % 4 < 4 := Nat.mod_lt _ (by decide)
  rw [setOf_eq h, ← lns_len]
  refine List.Perm.length_eq ((List.perm_ext_iff_of_nodup (h.nd _ hi) ((up_nodup h.up).filter _)).2 fun x => ?_)
  rw [h.mem _ hi, List.mem_filter]
  refine and_congr_right fun hx => ?_
  have := h.ge x hx
  rw [beq_iff_eq, Int.tmod_eq_emod_of_nonneg this, Int.tmod_eq_emod_of_nonneg hk]
  omega

theorem find_iff (l : List Ent) (k : Int) : (l.find? fun e => e.line == k).isSome = (lns l).contains k := by
  rw [Bool.eq_iff_iff, List.find?_isSome, List.contains_iff_mem, List.mem_map]
  simp

theorem Inv.find {M : Sets} {th : List Int} (h : Inv M th) (k : Int) (hk : 0 ≤ k) : (findM M k).isSome = th.contains k := by
  have hi : k.toNat % 4 < 4 := Nat.mod_lt _ (by decide)
  unfold findM
  rw [if_neg (by omega), find_iff, setOf_eq h, Bool.eq_iff_iff, List.contains_iff_mem, List.contains_iff_mem, h.mem _ hi]
  refine and_iff_left ?_
  omega

theorem Inv.room {M : Sets} {th : List Int} (h : Inv M th) (k : Int) (hk : 0 ≤ k) : roomM M 2 k = (th.contains k || decide ((cntL k th : Int) < 2)) := by
  unfold roomM
  rw [h.find k hk, h.cnt k hk]
  simp [hk]

theorem erase_lns (l : List Ent) (k : Int) : lns (l.eraseP fun e => e.line == k) = (lns l).erase k := by
  induction l with
  | nil => rfl
  | cons e l ih =>
    unfold lns at *
    rw [List.map_cons, List.erase_cons, List.eraseP_cons]
    cases h : (e.line == k)
    · simp [ih]
    · simp

theorem Inv.turn {M : Sets} {th : List Int} (h : Inv M th) (e : Ent) (hk : 0 ≤ e.line) : Inv (turnM M e) (sortU (th ++ [e.line])) := by
  have hi : e.line.toNat % 4 < 4 := Nat.mod_lt _ (by decide)
  have hg : ∀ i, i < 4 → lns ((turnM M e).getD i []) = if i = e.line.toNat % 4 then (lns (M.getD i [])).erase e.line ++ [e.line] else lns (M.getD i []) := by
    intro i h4
    unfold turnM
    rw [setOf_eq h, h.hM]
    simp only [List.getD_eq_getElem?_getD, List.getElem?_set]
    split
    · rename_i hh
      subst hh
      rw [if_pos (by rw [h.hM]; exact hi), if_pos rfl]
      rw [← erase_lns]
      simp [lns]
    · rename_i hh
      rw [if_neg (Ne.symm hh)]
  refine ⟨by unfold turnM; rw [List.length_set]; exact h.hM, sortU_up _, fun x hx => ?_, fun i h4 => ?_, fun i h4 x => ?_⟩
  · rw [sortU_mem, List.mem_append, List.mem_singleton] at hx
    rcases hx with hx | rfl
    · exact h.ge x hx
    · exact hk
  · rw [hg i h4]
    split
    · refine List.nodup_append.2 ⟨(h.nd i h4).erase _, by simp, ?_⟩
      intro a ha b hb
      rw [List.mem_singleton] at hb
      subst hb
      rintro rfl
      exact (h.nd i h4).not_mem_erase ha
    · exact h.nd i h4
  · rw [hg i h4, sortU_mem, List.mem_append, List.mem_singleton]
    split
    · rename_i hh
      rw [List.mem_append, List.mem_singleton, (h.nd i h4).mem_erase_iff, h.mem i h4]
      constructor
      · rintro (⟨_, h1, h2⟩ | rfl)
        · exact ⟨.inl h1, h2⟩
        · exact ⟨.inr rfl, by omega⟩
      · rintro ⟨h1 | rfl, h2⟩
        · by_cases hx : x = e.line
          · exact .inr hx
          · exact .inl ⟨hx, h1, h2⟩
        · exact .inr rfl
    · rename_i hh
      rw [h.mem i h4]
      constructor
      · rintro ⟨h1, h2⟩; exact ⟨.inl h1, h2⟩
      · rintro ⟨h1 | rfl, h2⟩
        · exact ⟨h1, h2⟩
        · omega

theorem Inv.found {M : Sets} {th : List Int} (h : Inv M th) (e : Ent) (hk : 0 ≤ e.line) : findM (turnM M e) e.line = some e := by
  have hi : e.line.toNat % 4 < 4 := Nat.mod_lt _ (by decide)
  unfold findM
  rw [if_neg (by omega), setOf_eq (h.turn e hk)]
  have hg : (turnM M e).getD (e.line.toNat % 4) [] = (M.getD (e.line.toNat % 4) []).eraseP (fun x => x.line == e.line) ++ [e] := by
    unfold turnM
    rw [setOf_eq h, h.hM]
    simp only [List.getD_eq_getElem?_getD, List.getElem?_set]
    rw [if_pos trivial, if_pos (by rw [h.hM]; exact hi)]; rfl
  rw [hg, List.find?_append]
  have hn : ((M.getD (e.line.toNat % 4) []).eraseP fun x => x.line == e.line).find? (fun x => x.line == e.line) = none := by
    have := find_iff ((M.getD (e.line.toNat % 4) []).eraseP fun x => x.line == e.line) e.line
    rw [erase_lns] at this
    have h2 : ((lns (M.getD (e.line.toNat % 4) [])).erase e.line).contains e.line = false := by
      rw [Bool.eq_false_iff, Ne, List.contains_iff_mem]
      exact (h.nd _ hi).not_mem_erase
    rw [h2] at this
    cases hc : ((M.getD (e.line.toNat % 4) []).eraseP fun x => x.line == e.line).find? (fun x => x.line == e.line)
    · rfl
    · rw [hc] at this; cases this
  rw [hn]
  simp

theorem four (l : List Int) (h : ∀ x ∈ l, 0 ≤ x) : (l.filter fun x => x % 4 == 0).length + (l.filter fun x => x % 4 == 1).length + (l.filter fun x => x % 4 == 2).length + (l.filter fun x => x % 4 == 3).length = l.length := by
  induction l with
  | nil => rfl
  | cons x l ih =>
    have ih := ih fun y hy => h y (List.mem_cons_of_mem _ hy)
    have : x % 4 = 0 ∨ x % 4 = 1 ∨ x % 4 = 2 ∨ x % 4 = 3 := by omega
    rcases this with e | e | e | e <;> simp [List.filter_cons, e] <;> omega

theorem Inv.tot {M : Sets} {th : List Int} (h : Inv M th) : totM M = th.length := by
  have key : ∀ (i : Nat) (hi : i < 4), (M.getD i []).length = (th.filter fun x => x % 4 == (i : Int)).length := by
    intro i hi
    rw [← lns_len]
    refine List.Perm.length_eq ((List.perm_ext_iff_of_nodup (h.nd _ hi) ((up_nodup h.up).filter _)).2 fun x => ?_)
    rw [h.mem _ hi, List.mem_filter, beq_iff_eq]
  have hM := h.hM
  rw [← four th h.ge]
  match M, hM, key with
  | [a, b, c, d], _, key =>
    have h0 := key 0 (by decide)
    have h1 := key 1 (by decide)
    have h2 := key 2 (by decide)
    have h3 := key 3 (by decide)
    simp at h0 h1 h2 h3
    simp [totM, h0, h1, h2, h3]
    omega

theorem Inv.new : Inv (sets (List.replicate (4 : Int).toNat ((none, 0, 0), []))) [] := by
  refine ⟨rfl, by simp, by simp, fun i hi => ?_, fun i hi x => ?_⟩
  · match i, hi with
    | 0, _ | 1, _ | 2, _ | 3, _ => exact List.nodup_nil
  · match i, hi with
    | 0, _ | 1, _ | 2, _ | 3, _ => simp [sets, lns, List.replicate]
end Go.Ev
