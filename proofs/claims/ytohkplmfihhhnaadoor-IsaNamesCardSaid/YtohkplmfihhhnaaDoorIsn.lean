/-
  Instructions, the plain law: names, kinds and fields; IsaNames answers true.
  Conditions: none.
-/
import Derived.Test.YtohkplmfihhhnaaDoorV7
import Derived.Test.YtohkplmfihhhnaaDoorIsp4
set_option linter.unusedVariables false
set_option linter.unusedSimpArgs false
set_option maxRecDepth 100000
namespace Go.Ev
open Go

def ndB : List PRow → Bool
  | [] => true
  | r :: l => !(l.any fun q => q.name.toList == r.name.toList) && ndB l

theorem nd_rows : ndB prows = true := by kernel_rfl

theorem conv_name (r : PRow) : r.conv.name = r.name := by
  unfold PRow.conv
  cases h : r.form == 8 <;> simp only [h, cond_true, cond_false]

theorem op_none (name : ByteArray) : ∀ (l : List PRow), (l.any fun q => q.name.toList == name.toList) = false → opP name l = 0 ∧ ∀ w, wantF name (l.map PRow.conv) w = w
  | [], _ => ⟨rfl, fun _ => rfl⟩
  | r :: l, h => by
    rw [List.any_cons, Bool.or_eq_false_iff] at h
    obtain ⟨i1, i2⟩ := op_none name l h.2
    refine ⟨?_, fun w => ?_⟩
    · unfold opP; rw [h.1, cond_false, i1]
    · rw [List.map_cons]; unfold wantF
      rw [conv_name r, h.1, cond_false, i2]

theorem op_want (name : ByteArray) : ∀ (l : List PRow), ndB l = true → wantF name (l.map PRow.conv) 0 = opP name l
  | [], _ => rfl
  | r :: l, h => by
    unfold ndB at h
    rw [Bool.and_eq_true] at h
    rw [List.map_cons]
    unfold wantF opP
    rw [conv_name r, conv_op]
    cases hb : r.name.toList == name.toList
    · rw [cond_false, cond_false]; exact op_want name l h.2
    · rw [cond_true, cond_true]
      have hn : (l.any fun q => q.name.toList == name.toList) = false := by
        have h1 := h.1
        rw [eq_of_beq hb] at h1
        simpa using h1
      exact (op_none name l hn).2 _

theorem op_self : ∀ (l : List PRow), ndB l = true → ∀ r ∈ l, opP r.name l = r.op
  | [], _, r, hr => by cases hr
  | q :: l, h, r, hr => by
    unfold ndB at h
    rw [Bool.and_eq_true] at h
    unfold opP
    rcases List.mem_cons.1 hr with rfl | hr
    · simp
    · have hne : (q.name.toList == r.name.toList) = false := by
        have h1 := h.1
        rw [Bool.not_eq_true', List.any_eq_false] at h1
        have := h1 r hr
        cases hb : q.name.toList == r.name.toList
        · rfl
        · exfalso; apply this; rw [eq_of_beq hb]; simp
      rw [hne, cond_false]
      exact op_self l h.2 r hr

theorem kind_rows : prows.map (fun r => corralref1_Kind.v r.op) = prows.map PRow.kind := by kernel_rfl
theorem uses_rows : prows.all (fun r => isa_row_uses.v r.op r.name r.form r.oc r.f3 r.f7 r.kind == (r.conv.rd, r.conv.rs1, r.conv.rs2, r.conv.format != 0#8)) = true := by kernel_rfl

theorem kind_out (op : Int) (h : op < 1 ∨ op > 69) : corralref1_Kind.v op = 0 := by
  have hne : ∀ c : Int, 1 ≤ c → c ≤ 69 → (op == c) = false := fun c h1 h2 => by simp; omega
  unfold corralref1_Kind.v corralref1_Kind.v2 corralref1_Kind.v4 corralref1_Kind.v6 corralref1_Kind.v8 corralref1_Kind.v10 corralref1_Kind.v12
  rcases h with h | h
  · have hge : ∀ c : Int, 1 ≤ c → decide (op ≥ c) = false := fun c h1 => by simp; omega
    simp only [hne 1 (by decide) (by decide), hne 2 (by decide) (by decide), hne 3 (by decide) (by decide), hne 4 (by decide) (by decide), hne 59 (by decide) (by decide), hge 1 (by decide), hge 5 (by decide), hge 11 (by decide), hge 16 (by decide), hge 19 (by decide), hge 51 (by decide), hge 60 (by decide), cond_false]
  · have hge : ∀ c : Int, c ≤ 69 → decide (op ≥ c) = true := fun c h1 => by simp; omega
    have hle : ∀ c : Int, c ≤ 69 → decide (op ≤ c) = false := fun c h1 => by simp; omega
    simp only [hne 1 (by decide) (by decide), hne 2 (by decide) (by decide), hne 3 (by decide) (by decide), hne 4 (by decide) (by decide), hne 59 (by decide) (by decide), hge 1 (by decide), hge 5 (by decide), hge 11 (by decide), hge 16 (by decide), hge 19 (by decide), hge 51 (by decide), hge 60 (by decide),
      hle 10 (by decide), hle 15 (by decide), hle 18 (by decide), hle 37 (by decide), hle 58 (by decide), hle 69 (by decide), cond_false, cond_true]

theorem findP_op (op : Int) (h : (findP op).2 = true) : (findP op).1.op = op := by
  unfold findP at *
  by_cases h1 : op < 1
  · simp [h1] at h
  · by_cases h2 : op > 69
    · simp [h1, h2] at h
    · have e1 : decide (op < 1) = false := by simp [h1]
      have e2 : decide (op > 69) = false := by simp [h2]
      rw [e1, e2, cond_false, cond_false]
      have hj : op.toNat - 1 < prows.length := by rw [prows_length]; omega
      have h69 : op.toNat - 1 < 69 := by omega
      have h3 := congrArg (fun l => l[op.toNat - 1]?) ops_rows
      rw [List.getElem?_map, List.getElem?_map, List.getElem?_eq_getElem hj, List.getElem?_eq_getElem (by rw [List.length_range]; exact h69), List.getElem_range] at h3
      have h4 : prows[op.toNat - 1].op = 1 + ((op.toNat - 1 : Nat) : Int) := Option.some.inj h3
      have e3 : prows.getD (op.toNat - 1) zrow = prows[op.toNat - 1] := by rw [List.getD_eq_getElem?_getD, List.getElem?_eq_getElem hj]; rfl
      show (prows.getD (op.toNat - 1) zrow).op = op
      rw [e3, h4]; omega

theorem findP_out (op : Int) (h : (findP op).2 = false) : findP op = (zrow, false) ∧ ofR op = (zrr, false) ∧ (op < 1 ∨ op > 69) := by
  unfold findP ofR at *
  by_cases h1 : op < 1
  · simp [h1]
  · by_cases h2 : op > 69
    · simp [h1, h2]
    · simp [h1, h2] at h

theorem kind_in (r : PRow) (h : r ∈ prows) : r.kind = corralref1_Kind.v r.op := by
  obtain ⟨i, hi, rfl⟩ := List.mem_iff_getElem.1 h
  have := congrArg (fun l => l[i]?) kind_rows
  simp [hi] at this
  exact this.symm

theorem isaNames_true (op : Int) (name : ByteArray) : corrallaw3_IsaNames.v op name = true := by
  have e0 : corralref1_Of.v op = ((ofR op).1.op, (ofR op).1.name, (ofR op).1.oc, (ofR op).1.f3, (ofR op).1.f7, (ofR op).1.hasF3, (ofR op).1.hasF7, (ofR op).1.format, (ofR op).1.rd, (ofR op).1.rs1, (ofR op).1.rs2, (ofR op).1.csr, (ofR op).1.whole, (ofR op).1.pair, (ofR op).2) := rfl
  have e1 : isa_Name.v op = (findP op).1.name := rfl
  have e2 : isa_Kind.v op = (findP op).1.kind := rfl
  have e3 : isa_Uses.v op = bif !(findP op).2 then (false, false, false, false) else isa_row_uses.v (findP op).1.op (findP op).1.name (findP op).1.form (findP op).1.oc (findP op).1.f3 (findP op).1.f7 (findP op).1.kind := rfl
  have e4 : isa_Op.v name = wantF name rrows 0 := by rw [conv_rows, op_want name prows nd_rows]; rfl
  unfold corrallaw3_IsaNames.v corrallaw3_IsaNames.v8 corrallaw3_IsaNames.v15
  dsimp only
  rw [first3_true, e0, e1, e2, e3, e4]
  cases h : (findP op).2
  · obtain ⟨f1, f2, f3⟩ := findP_out op h
    rw [f1, f2, kind_out op f3]
    simp [zrow, zrr]
  · obtain ⟨g1, g2⟩ := of_find op
    obtain ⟨g3, g4⟩ := g2 h
    have g5 := findP_op op h
    have g6 := kind_in _ g4
    have g7 := List.all_eq_true.1 uses_rows _ g4
    have g8 := op_self prows nd_rows _ g4
    rw [h] at g1
    rw [g1, g3, conv_name, g6, g5]
    have g7 := eq_of_beq g7
    rw [g6, g5] at g7
    have g9 : isa_Op.v (findP op).1.name = op := g8.trans g5
    simp [g7, g9]
end Go.Ev
