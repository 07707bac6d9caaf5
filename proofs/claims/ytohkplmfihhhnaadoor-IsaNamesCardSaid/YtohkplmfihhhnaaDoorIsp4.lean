/-
  Instructions, the plain law: Encode answers as the document says; IsaSays answers true.
  Conditions: none.
-/
import Derived.Test.YtohkplmfihhhnaaDoorIsp3
set_option linter.unusedVariables false
set_option linter.unusedSimpArgs false
namespace Go.Ev
open Go

theorem conv_op (r : PRow) : r.conv.op = r.op := by
  unfold PRow.conv
  cases h : r.form == 8 <;> simp only [h, cond_true, cond_false]

theorem findR_map : ∀ (l : List PRow) (k : Int), (∀ (j : Nat) (h : j < l.length), l[j].op = k + j) → ∀ (j : Nat) (h : j < l.length), findR (k + j) (l.map PRow.conv) = (l[j].conv, true)
  | [], _, _, j, h => absurd h (by simp)
  | r :: l, k, hop, j, h => by
    have h0 : r.op = k := by have := hop 0 (by simp); simpa using this
    rw [List.map_cons]
    unfold findR
    rw [conv_op, h0]
    cases j with
    | zero => simp
    | succ j =>
      have e : (k == k + ((j + 1 : Nat) : Int)) = false := by simp; omega
      rw [e, cond_false]
      have := findR_map l (k + 1) (fun i hi => by have := hop (i + 1) (by simp; omega); simp at this; rw [this]; omega) j (by simpa using h)
      rw [show k + ((j + 1 : Nat) : Int) = k + 1 + (j : Int) by omega, this]
      rfl

theorem ops_rows : prows.map PRow.op = (List.range 69).map (fun i : Nat => (1 : Int) + (i : Int)) := by kernel_rfl

theorem of_find (op : Int) : (ofR op).2 = (findP op).2 ∧ ((findP op).2 = true → (ofR op).1 = (findP op).1.conv ∧ (findP op).1 ∈ prows) := by
  unfold ofR findP
  by_cases h1 : op < 1
  · simp [h1]
  · by_cases h2 : op > 69
    · simp [h1, h2]
    · have e1 : decide (op < 1) = false := by simp [h1]
      have e2 : decide (op > 69) = false := by simp [h2]
      rw [e1, e2, cond_false, cond_false, cond_false, cond_false, conv_rows]
      have hj : op.toNat - 1 < prows.length := by rw [prows_length]; omega
      have hop : ∀ (j : Nat) (h : j < prows.length), prows[j].op = 1 + (j : Int) := fun j h => by
        have := congrArg (fun l => l[j]?) ops_rows
        have h69 : j < 69 := by rw [← prows_length]; exact h
        simp [h, h69] at this
        exact this
      have := findR_map prows 1 hop (op.toNat - 1) hj
      rw [show (1 : Int) + ((op.toNat - 1 : Nat) : Int) = op by omega] at this
      have e3 : prows.getD (op.toNat - 1) zrow = prows[op.toNat - 1] := by simp [List.getD, hj]
      rw [this, e3]
      exact ⟨rfl, fun _ => ⟨rfl, List.getElem_mem hj⟩⟩

def PRow.wf2 (r : PRow) : Bool := (bif ([0, 1] : List Int).contains r.form then r.f3 == 0#32 else true) && (bif ([5, 6, 8, 9, 12, 13] : List Int).contains r.form then true else r.f7 == 0#32)
theorem wf2_rows : prows.all PRow.wf2 = true := by kernel_rfl

abbrev PRow.lay (p : PRow) (x : BitVec 32) := isa_row_lay.v p.op p.name p.form p.oc p.f3 p.f7 p.kind x

/-- What Encode asks of a row. -/
structure EFacts (p : PRow) (i0 i1 i2 i3 i4 : Int) (i5 : BitVec 32) (i6 i7 : Bool) : Prop where
  uses : isa_row_uses.v p.op p.name p.form p.oc p.f3 p.f7 p.kind = (p.conv.rd, p.conv.rs1, p.conv.rs2, p.conv.format != 0#8)
  lay : (p.conv.format != 0#8) = true → p.lay i5 = corralref1_lay.v p.conv.format i5
  csr : (p.form == 10 || p.form == 11) = p.conv.csr
  pair : (p.form == 12 || p.form == 13) = p.conv.pair
  word : corralref1_reg.v i1 = true → corralref1_reg.v i2 = true → corralref1_reg.v i3 = true →
    isa_Encode.v22 (bif p.conv.format != 0#8 then (corralref1_lay.v p.conv.format i5).1 else 0#32) p.conv.pair i0 i1 i2 i3 i4 i5 i6 i7 p.op p.name p.form p.oc p.f3 p.f7 p.kind = (p.conv.word (i0, i1, i2, i3, i4, i5, i6, i7), none)

theorem lay0 (x : BitVec 32) : (corralref1_lay.v 0#8 x).1 = 0#32 := by kernel_rfl
theorem v29_eq (w f7 : BitVec 32) (i0 i1 i2 i3 i4 : Int) (i5 : BitVec 32) (i6 i7 : Bool) (r0 : Int) (r1 : ByteArray) (r2 : Int) (r3 r4 r5 : BitVec 32) (r6 : Int) :
    isa_Encode.v29 w f7 i0 i1 i2 i3 i4 i5 i6 i7 r0 r1 r2 r3 r4 r5 r6 = isa_Encode.v31 w (bif i7 then f7 ||| 1#32 else f7) i0 i1 i2 i3 i4 i5 i6 i7 r0 r1 r2 r3 r4 r5 r6 := by
  unfold isa_Encode.v29; cases i7 <;> rfl

theorem efacts (p : PRow) (h : p.wf = true) (h2 : p.wf2 = true) (i0 i1 i2 i3 i4 : Int) (i5 : BitVec 32) (i6 i7 : Bool) : EFacts p i0 i1 i2 i3 i4 i5 i6 i7 := by
  obtain ⟨op, name, form, oc, f3, f7, kind⟩ := p
  unfold PRow.wf at h
  rw [Bool.and_eq_true] at h
  obtain ⟨h, hf⟩ := h
  simp only [Bool.or_eq_true, beq_iff_eq] at hf
  rcases hf with ((((((((((((hf | hf) | hf) | hf) | hf) | hf) | hf) | hf) | hf) | hf) | hf) | hf) | hf) | hf <;> subst hf
  · replace h : ((oc &&& 127#32 == oc) && (f3 &&& 7#32 == f3) && (f7 &&& 127#32 == f7)) = true := h
    simp only [Bool.and_eq_true, beq_iff_eq] at h
    replace h2 : ((f3 == 0#32) && (f7 == 0#32)) = true := h2
    simp only [Bool.and_eq_true, beq_iff_eq, and_true, true_and] at h2
    obtain ⟨hz3, hz7⟩ := h2
    subst hz3 hz7
    refine ⟨by kernel_rfl, fun _ => by
      have eL : (PRow.mk op name 0 oc 0#32 0#32 kind).lay i5 = enc_Lay.v (isa_row_format.v op name 0 oc 0#32 0#32 kind) i5 := by
        show isa_row_lay.v op name 0 oc 0#32 0#32 kind i5 = _
        unfold isa_row_lay.v
        rw [condF (c := ((0 : Int) == 5)) (by decide), condF (c := ((0 : Int) == 7)) (by decide), condF (c := ((0 : Int) == 11)) (by decide)]
      have eF : isa_row_format.v op name 0 oc 0#32 0#32 kind = 85#8 := by kernel_rfl
      rw [eL, eF, layU_p]; rfl, by kernel_rfl, by kernel_rfl, fun r1 r2 r3 => ?_⟩
    have e : ∀ w, isa_Encode.v22 w false i0 i1 i2 i3 i4 i5 i6 i7 op name 0 oc 0#32 0#32 kind = isa_Encode.v31 w 0#32 i0 i1 i2 i3 i4 i5 i6 i7 op name 0 oc 0#32 0#32 kind := fun w => by
      unfold isa_Encode.v22
      rw [condF (c := ((0 : Int) == 8)) (by decide), cond_false]
    exact (e _).trans (congrArg (fun x => (x, none)) (word_plain op name oc 0#32 0#32 false false 85#8 true false false false i0 i1 i2 i3 i4 i5 i6 i7 _ (rfl) h.1.1 (by decide) (by decide) r1 r2 r3))
  · replace h : ((oc &&& 127#32 == oc) && (f3 &&& 7#32 == f3) && (f7 &&& 127#32 == f7)) = true := h
    simp only [Bool.and_eq_true, beq_iff_eq] at h
    replace h2 : ((f3 == 0#32) && (f7 == 0#32)) = true := h2
    simp only [Bool.and_eq_true, beq_iff_eq, and_true, true_and] at h2
    obtain ⟨hz3, hz7⟩ := h2
    subst hz3 hz7
    refine ⟨by kernel_rfl, fun _ => by
      have eL : (PRow.mk op name 1 oc 0#32 0#32 kind).lay i5 = enc_Lay.v (isa_row_format.v op name 1 oc 0#32 0#32 kind) i5 := by
        show isa_row_lay.v op name 1 oc 0#32 0#32 kind i5 = _
        unfold isa_row_lay.v
        rw [condF (c := ((1 : Int) == 5)) (by decide), condF (c := ((1 : Int) == 7)) (by decide), condF (c := ((1 : Int) == 11)) (by decide)]
      have eF : isa_row_format.v op name 1 oc 0#32 0#32 kind = 74#8 := by kernel_rfl
      rw [eL, eF, layJ_p]; rfl, by kernel_rfl, by kernel_rfl, fun r1 r2 r3 => ?_⟩
    have e : ∀ w, isa_Encode.v22 w false i0 i1 i2 i3 i4 i5 i6 i7 op name 1 oc 0#32 0#32 kind = isa_Encode.v31 w 0#32 i0 i1 i2 i3 i4 i5 i6 i7 op name 1 oc 0#32 0#32 kind := fun w => by
      unfold isa_Encode.v22
      rw [condF (c := ((1 : Int) == 8)) (by decide), cond_false]
    exact (e _).trans (congrArg (fun x => (x, none)) (word_plain op name oc 0#32 0#32 false false 74#8 true false false false i0 i1 i2 i3 i4 i5 i6 i7 _ (rfl) h.1.1 (by decide) (by decide) r1 r2 r3))
  · replace h : ((oc &&& 127#32 == oc) && (f3 &&& 7#32 == f3) && (f7 &&& 127#32 == f7)) = true := h
    simp only [Bool.and_eq_true, beq_iff_eq] at h
    replace h2 : ((true) && (f7 == 0#32)) = true := h2
    simp only [Bool.and_eq_true, beq_iff_eq, and_true, true_and] at h2
    subst h2
    refine ⟨by kernel_rfl, fun _ => by
      have eL : (PRow.mk op name 2 oc f3 0#32 kind).lay i5 = enc_Lay.v (isa_row_format.v op name 2 oc f3 0#32 kind) i5 := by
        show isa_row_lay.v op name 2 oc f3 0#32 kind i5 = _
        unfold isa_row_lay.v
        rw [condF (c := ((2 : Int) == 5)) (by decide), condF (c := ((2 : Int) == 7)) (by decide), condF (c := ((2 : Int) == 11)) (by decide)]
      have eF : isa_row_format.v op name 2 oc f3 0#32 kind = 73#8 := by kernel_rfl
      rw [eL, eF, layI_p]; rfl, by kernel_rfl, by kernel_rfl, fun r1 r2 r3 => ?_⟩
    have e : ∀ w, isa_Encode.v22 w false i0 i1 i2 i3 i4 i5 i6 i7 op name 2 oc f3 0#32 kind = isa_Encode.v31 w 0#32 i0 i1 i2 i3 i4 i5 i6 i7 op name 2 oc f3 0#32 kind := fun w => by
      unfold isa_Encode.v22
      rw [condF (c := ((2 : Int) == 8)) (by decide), cond_false]
    exact (e _).trans (congrArg (fun x => (x, none)) (word_plain op name oc f3 0#32 true false 73#8 true true false false i0 i1 i2 i3 i4 i5 i6 i7 _ (rfl) h.1.1 (h.1.2) (by decide) r1 r2 r3))
  · replace h : ((oc &&& 127#32 == oc) && (f3 &&& 7#32 == f3) && (f7 &&& 127#32 == f7)) = true := h
    simp only [Bool.and_eq_true, beq_iff_eq] at h
    replace h2 : ((true) && (f7 == 0#32)) = true := h2
    simp only [Bool.and_eq_true, beq_iff_eq, and_true, true_and] at h2
    subst h2
    refine ⟨by kernel_rfl, fun _ => by
      have eL : (PRow.mk op name 3 oc f3 0#32 kind).lay i5 = enc_Lay.v (isa_row_format.v op name 3 oc f3 0#32 kind) i5 := by
        show isa_row_lay.v op name 3 oc f3 0#32 kind i5 = _
        unfold isa_row_lay.v
        rw [condF (c := ((3 : Int) == 5)) (by decide), condF (c := ((3 : Int) == 7)) (by decide), condF (c := ((3 : Int) == 11)) (by decide)]
      have eF : isa_row_format.v op name 3 oc f3 0#32 kind = 66#8 := by kernel_rfl
      rw [eL, eF, layB_p]; rfl, by kernel_rfl, by kernel_rfl, fun r1 r2 r3 => ?_⟩
    have e : ∀ w, isa_Encode.v22 w false i0 i1 i2 i3 i4 i5 i6 i7 op name 3 oc f3 0#32 kind = isa_Encode.v31 w 0#32 i0 i1 i2 i3 i4 i5 i6 i7 op name 3 oc f3 0#32 kind := fun w => by
      unfold isa_Encode.v22
      rw [condF (c := ((3 : Int) == 8)) (by decide), cond_false]
    exact (e _).trans (congrArg (fun x => (x, none)) (word_plain op name oc f3 0#32 true false 66#8 false true true false i0 i1 i2 i3 i4 i5 i6 i7 _ (rfl) h.1.1 (h.1.2) (by decide) r1 r2 r3))
  · replace h : ((oc &&& 127#32 == oc) && (f3 &&& 7#32 == f3) && (f7 &&& 127#32 == f7)) = true := h
    simp only [Bool.and_eq_true, beq_iff_eq] at h
    replace h2 : ((true) && (f7 == 0#32)) = true := h2
    simp only [Bool.and_eq_true, beq_iff_eq, and_true, true_and] at h2
    subst h2
    refine ⟨by kernel_rfl, fun _ => by
      have eL : (PRow.mk op name 4 oc f3 0#32 kind).lay i5 = enc_Lay.v (isa_row_format.v op name 4 oc f3 0#32 kind) i5 := by
        show isa_row_lay.v op name 4 oc f3 0#32 kind i5 = _
        unfold isa_row_lay.v
        rw [condF (c := ((4 : Int) == 5)) (by decide), condF (c := ((4 : Int) == 7)) (by decide), condF (c := ((4 : Int) == 11)) (by decide)]
      have eF : isa_row_format.v op name 4 oc f3 0#32 kind = 83#8 := by kernel_rfl
      rw [eL, eF, layS_p]; rfl, by kernel_rfl, by kernel_rfl, fun r1 r2 r3 => ?_⟩
    have e : ∀ w, isa_Encode.v22 w false i0 i1 i2 i3 i4 i5 i6 i7 op name 4 oc f3 0#32 kind = isa_Encode.v31 w 0#32 i0 i1 i2 i3 i4 i5 i6 i7 op name 4 oc f3 0#32 kind := fun w => by
      unfold isa_Encode.v22
      rw [condF (c := ((4 : Int) == 8)) (by decide), cond_false]
    exact (e _).trans (congrArg (fun x => (x, none)) (word_plain op name oc f3 0#32 true false 83#8 false true true false i0 i1 i2 i3 i4 i5 i6 i7 _ (rfl) h.1.1 (h.1.2) (by decide) r1 r2 r3))
  · replace h : ((oc &&& 127#32 == oc) && (f3 &&& 7#32 == f3) && (f7 &&& 127#32 == f7)) = true := h
    simp only [Bool.and_eq_true, beq_iff_eq] at h
    replace h2 : ((true) && (true)) = true := h2
    simp only [Bool.and_eq_true, beq_iff_eq, and_true, true_and] at h2
    refine ⟨by kernel_rfl, fun _ => by kernel_rfl, by kernel_rfl, by kernel_rfl, fun r1 r2 r3 => ?_⟩
    have e : ∀ w, isa_Encode.v22 w false i0 i1 i2 i3 i4 i5 i6 i7 op name 5 oc f3 f7 kind = isa_Encode.v31 w f7 i0 i1 i2 i3 i4 i5 i6 i7 op name 5 oc f3 f7 kind := fun w => by
      unfold isa_Encode.v22
      rw [condF (c := ((5 : Int) == 8)) (by decide), cond_false]
    exact (e _).trans (congrArg (fun x => (x, none)) (word_plain op name oc f3 f7 true true 90#8 true true false false i0 i1 i2 i3 i4 i5 i6 i7 _ (rfl) h.1.1 (h.1.2) (h.2) r1 r2 r3))
  · replace h : ((oc &&& 127#32 == oc) && (f3 &&& 7#32 == f3) && (f7 &&& 127#32 == f7)) = true := h
    simp only [Bool.and_eq_true, beq_iff_eq] at h
    replace h2 : ((true) && (true)) = true := h2
    simp only [Bool.and_eq_true, beq_iff_eq, and_true, true_and] at h2
    refine ⟨by kernel_rfl, fun h => (by cases h), by kernel_rfl, by kernel_rfl, fun r1 r2 r3 => ?_⟩
    have e : ∀ w, isa_Encode.v22 w false i0 i1 i2 i3 i4 i5 i6 i7 op name 6 oc f3 f7 kind = isa_Encode.v31 w f7 i0 i1 i2 i3 i4 i5 i6 i7 op name 6 oc f3 f7 kind := fun w => by
      unfold isa_Encode.v22
      rw [condF (c := ((6 : Int) == 8)) (by decide), cond_false]
    exact (e _).trans (congrArg (fun x => (x, none)) (word_plain op name oc f3 f7 true true 0#8 true true true false i0 i1 i2 i3 i4 i5 i6 i7 _ ((lay0 i5).symm) h.1.1 (h.1.2) (h.2) r1 r2 r3))
  · replace h : ((oc &&& 127#32 == oc) && (f3 &&& 7#32 == f3) && (f7 &&& 127#32 == f7)) = true := h
    simp only [Bool.and_eq_true, beq_iff_eq] at h
    replace h2 : ((true) && (f7 == 0#32)) = true := h2
    simp only [Bool.and_eq_true, beq_iff_eq, and_true, true_and] at h2
    subst h2
    refine ⟨by kernel_rfl, fun _ => by kernel_rfl, by kernel_rfl, by kernel_rfl, fun r1 r2 r3 => ?_⟩
    have e : ∀ w, isa_Encode.v22 w false i0 i1 i2 i3 i4 i5 i6 i7 op name 7 oc f3 0#32 kind = isa_Encode.v31 w 0#32 i0 i1 i2 i3 i4 i5 i6 i7 op name 7 oc f3 0#32 kind := fun w => by
      unfold isa_Encode.v22
      rw [condF (c := ((7 : Int) == 8)) (by decide), cond_false]
    exact (e _).trans (congrArg (fun x => (x, none)) (word_plain op name oc f3 0#32 true false 70#8 false false false false i0 i1 i2 i3 i4 i5 i6 i7 _ (rfl) h.1.1 (h.1.2) (by decide) r1 r2 r3))
  · have hn : (oc != 0#32) = true := h
    refine ⟨by kernel_rfl, fun h => (by cases h), by kernel_rfl, by kernel_rfl, fun r1 r2 r3 => ?_⟩
    have e : (PRow.mk op name 8 oc f3 f7 kind).conv.word (i0, i1, i2, i3, i4, i5, i6, i7) = oc := by
      have e2 : (PRow.mk op name 8 oc f3 f7 kind).conv.word (i0, i1, i2, i3, i4, i5, i6, i7) = (bif oc != 0#32 then oc else corralref1_word.v11 ((0#32 ||| 0#32 <<< 12) ||| 0#32 <<< 25) op name 0#32 0#32 0#32 false false 0#8 false false false false oc false i0 i1 i2 i3 i4 i5 i6 i7) := by kernel_rfl
      rw [e2, hn]; rfl
    rw [e]; rfl
  · replace h : ((oc &&& 127#32 == oc) && (f3 &&& 7#32 == f3) && (f7 &&& 127#32 == f7)) = true := h
    simp only [Bool.and_eq_true, beq_iff_eq] at h
    replace h2 : ((true) && (true)) = true := h2
    simp only [Bool.and_eq_true, beq_iff_eq, and_true, true_and] at h2
    refine ⟨by kernel_rfl, fun h => (by cases h), by kernel_rfl, by kernel_rfl, fun r1 r2 r3 => ?_⟩
    have e : ∀ w, isa_Encode.v22 w false i0 i1 i2 i3 i4 i5 i6 i7 op name 9 oc f3 f7 kind = isa_Encode.v31 w f7 i0 i1 i2 i3 i4 i5 i6 i7 op name 9 oc f3 f7 kind := fun w => by
      unfold isa_Encode.v22
      rw [condF (c := ((9 : Int) == 8)) (by decide), cond_false]
    exact (e _).trans (congrArg (fun x => (x, none)) (word_plain op name oc f3 f7 true true 0#8 false true true false i0 i1 i2 i3 i4 i5 i6 i7 _ ((lay0 i5).symm) h.1.1 (h.1.2) (h.2) r1 r2 r3))
  · replace h : ((oc &&& 127#32 == oc) && (f3 &&& 7#32 == f3) && (f7 &&& 127#32 == f7)) = true := h
    simp only [Bool.and_eq_true, beq_iff_eq] at h
    replace h2 : ((true) && (f7 == 0#32)) = true := h2
    simp only [Bool.and_eq_true, beq_iff_eq, and_true, true_and] at h2
    subst h2
    refine ⟨by kernel_rfl, fun h => (by cases h), by kernel_rfl, by kernel_rfl, fun r1 r2 r3 => ?_⟩
    have e : ∀ w, isa_Encode.v22 w false i0 i1 i2 i3 i4 i5 i6 i7 op name 10 oc f3 0#32 kind = isa_Encode.v31 w 0#32 i0 i1 i2 i3 i4 i5 i6 i7 op name 10 oc f3 0#32 kind := fun w => by
      unfold isa_Encode.v22
      rw [condF (c := ((10 : Int) == 8)) (by decide), cond_false]
    exact (e _).trans (congrArg (fun x => (x, none)) (word_plain op name oc f3 0#32 true false 0#8 true true false true i0 i1 i2 i3 i4 i5 i6 i7 _ ((lay0 i5).symm) h.1.1 (h.1.2) (by decide) r1 r2 r3))
  · replace h : ((oc &&& 127#32 == oc) && (f3 &&& 7#32 == f3) && (f7 &&& 127#32 == f7)) = true := h
    simp only [Bool.and_eq_true, beq_iff_eq] at h
    replace h2 : ((true) && (f7 == 0#32)) = true := h2
    simp only [Bool.and_eq_true, beq_iff_eq, and_true, true_and] at h2
    subst h2
    refine ⟨by kernel_rfl, fun _ => by kernel_rfl, by kernel_rfl, by kernel_rfl, fun r1 r2 r3 => ?_⟩
    have e : ∀ w, isa_Encode.v22 w false i0 i1 i2 i3 i4 i5 i6 i7 op name 11 oc f3 0#32 kind = isa_Encode.v31 w 0#32 i0 i1 i2 i3 i4 i5 i6 i7 op name 11 oc f3 0#32 kind := fun w => by
      unfold isa_Encode.v22
      rw [condF (c := ((11 : Int) == 8)) (by decide), cond_false]
    exact (e _).trans (congrArg (fun x => (x, none)) (word_plain op name oc f3 0#32 true false 67#8 true false false true i0 i1 i2 i3 i4 i5 i6 i7 _ (rfl) h.1.1 (h.1.2) (by decide) r1 r2 r3))
  · replace h : ((oc &&& 127#32 == oc) && (f3 &&& 7#32 == f3) && (f7 &&& 31#32 == f7)) = true := h
    simp only [Bool.and_eq_true, beq_iff_eq] at h
    replace h2 : ((true) && (true)) = true := h2
    simp only [Bool.and_eq_true, beq_iff_eq, and_true, true_and] at h2
    refine ⟨by kernel_rfl, fun h => (by cases h), by kernel_rfl, by kernel_rfl, fun r1 r2 r3 => ?_⟩
    have e : isa_Encode.v22 0#32 true i0 i1 i2 i3 i4 i5 i6 i7 op name 12 oc f3 f7 kind = isa_Encode.v31 0#32 (bif i7 then (bif i6 then f7 <<< 2 ||| 2#32 else f7 <<< 2) ||| 1#32 else (bif i6 then f7 <<< 2 ||| 2#32 else f7 <<< 2)) i0 i1 i2 i3 i4 i5 i6 i7 op name 12 oc f3 f7 kind := by
      unfold isa_Encode.v22
      rw [condF (c := ((12 : Int) == 8)) (by decide), cond_true]
      cases i6 <;> simp only [cond_true, cond_false, v29_eq]
    exact e.trans (congrArg (fun x => (x, none)) (word_pair op name oc f3 f7 true true true true false false i0 i1 i2 i3 i4 i5 i6 i7 h.1.1 h.1.2 h.2 r1 r2 r3))
  · replace h : ((oc &&& 127#32 == oc) && (f3 &&& 7#32 == f3) && (f7 &&& 31#32 == f7)) = true := h
    simp only [Bool.and_eq_true, beq_iff_eq] at h
    replace h2 : ((true) && (true)) = true := h2
    simp only [Bool.and_eq_true, beq_iff_eq, and_true, true_and] at h2
    refine ⟨by kernel_rfl, fun h => (by cases h), by kernel_rfl, by kernel_rfl, fun r1 r2 r3 => ?_⟩
    have e : isa_Encode.v22 0#32 true i0 i1 i2 i3 i4 i5 i6 i7 op name 13 oc f3 f7 kind = isa_Encode.v31 0#32 (bif i7 then (bif i6 then f7 <<< 2 ||| 2#32 else f7 <<< 2) ||| 1#32 else (bif i6 then f7 <<< 2 ||| 2#32 else f7 <<< 2)) i0 i1 i2 i3 i4 i5 i6 i7 op name 13 oc f3 f7 kind := by
      unfold isa_Encode.v22
      rw [condF (c := ((13 : Int) == 8)) (by decide), cond_true]
      cases i6 <;> simp only [cond_true, cond_false, v29_eq]
    exact e.trans (congrArg (fun x => (x, none)) (word_pair op name oc f3 f7 true true true true true false i0 i1 i2 i3 i4 i5 i6 i7 h.1.1 h.1.2 h.2 r1 r2 r3))

theorem tail_same (p : PRow) (h : p.wf = true) (h2 : p.wf2 = true) (i0 i1 i2 i3 i4 : Int) (i5 : BitVec 32) (i6 i7 : Bool) :
    Rel (encL [i1, i2, i3] (isa_Encode.v10 i0 i1 i2 i3 i4 i5 i6 i7 p.op p.name p.form p.oc p.f3 p.f7 p.kind)) (rTail p.conv i0 i1 i2 i3 i4 i5 i6 i7) := by
  have F := efacts p h h2 i0 i1 i2 i3 i4 i5 i6 i7
  unfold encL encL encL encL rTail
  rw [encL_reg, encL_reg, encL_reg]
  refine rel_bif (fun _ => ⟨rfl, rfl⟩) fun r1 => rel_bif (fun _ => ⟨rfl, rfl⟩) fun r2 => rel_bif (fun _ => ⟨rfl, rfl⟩) fun r3 => ?_
  simp only [Bool.not_eq_false'] at r1 r2 r3
  unfold isa_Encode.v10 isa_Encode.v11
  rw [cond_true]
  refine rel_bif (fun _ => ⟨rfl, rfl⟩) fun _ => rel_bif (fun _ => ⟨rfl, rfl⟩) fun _ => ?_
  unfold isa_Encode.v12
  dsimp only
  rw [F.uses, v7_eq]
  dsimp only
  have key : ∀ w, w = (bif p.conv.format != 0#8 then (corralref1_lay.v p.conv.format i5).1 else 0#32) →
      Rel (isa_Encode.v18 p.conv.rd p.conv.rs1 p.conv.rs2 (p.conv.format != 0#8) w i0 i1 i2 i3 i4 i5 i6 i7 p.op p.name p.form p.oc p.f3 p.f7 p.kind)
        (bif ((!p.conv.rd && i1 != 0) || ((!p.conv.rs1 && i2 != 0) || ((!p.conv.rs2 && i3 != 0) || ((!p.conv.csr && i4 != 0) || ((p.conv.format == 0#8 && i5 != 0#32) || (!p.conv.pair && (i6 || i7))))))) then (0#32, 104) else (p.conv.word (i0, i1, i2, i3, i4, i5, i6, i7), 0)) := fun w hw => by
    have e : isa_Encode.v18 p.conv.rd p.conv.rs1 p.conv.rs2 (p.conv.format != 0#8) w i0 i1 i2 i3 i4 i5 i6 i7 p.op p.name p.form p.oc p.f3 p.f7 p.kind =
        isa_Encode.v20 p.conv.rd p.conv.rs1 p.conv.rs2 (p.conv.format != 0#8) w p.conv.csr p.conv.pair i0 i1 i2 i3 i4 i5 i6 i7 p.op p.name p.form p.oc p.f3 p.f7 p.kind := by
      rw [← F.csr, ← F.pair]
      unfold isa_Encode.v18 isa_Encode.v19
      cases p.form == 10 <;> cases p.form == 12 <;> rfl
    rw [e, v20_eq, hw, F.word r1 r2 r3]
    have c : ((!p.conv.rd && i1 != 0) || ((!p.conv.rs1 && i2 != 0) || ((!p.conv.rs2 && i3 != 0) || ((!(p.conv.format != 0#8) && i5 != 0#32) || ((!p.conv.csr && i4 != 0) || (!p.conv.pair && (i6 || i7))))))) =
        ((!p.conv.rd && i1 != 0) || ((!p.conv.rs1 && i2 != 0) || ((!p.conv.rs2 && i3 != 0) || ((!p.conv.csr && i4 != 0) || ((p.conv.format == 0#8 && i5 != 0#32) || (!p.conv.pair && (i6 || i7))))))) := by
      unfold bne
      rw [Bool.not_not]
      congr 3
      rw [← Bool.or_assoc, ← Bool.or_assoc, Bool.or_comm (p.conv.format == 0#8 && _)]
    rw [c]
    exact rel_bif (fun _ => ⟨rfl, rfl⟩) fun _ => ⟨rfl, rfl⟩
  cases hf : p.conv.format != 0#8
  · have := key 0#32 (by rw [hf]; rfl)
    rw [hf] at this
    exact this
  · have eL := F.lay hf
    unfold PRow.lay at eL
    rw [cond_true, cond_true, eL]
    refine rel_bif (fun _ => ⟨rfl, rfl⟩) fun _ => ?_
    have := key (corralref1_lay.v p.conv.format i5).1 (by rw [hf]; rfl)
    rw [hf] at this
    exact this

theorem encode_same (i0 i1 i2 i3 i4 : Int) (i5 : BitVec 32) (i6 i7 : Bool) : Rel (isa_Encode.v i0 i1 i2 i3 i4 i5 i6 i7) (corralref1_Encode.v i0 i1 i2 i3 i4 i5 i6 i7) := by
  rw [encode_r]
  unfold isa_Encode.v
  obtain ⟨e1, e2⟩ := of_find i0
  rw [e1]
  refine rel_bif (fun _ => ⟨rfl, rfl⟩) fun h => ?_
  simp only [Bool.not_eq_false'] at h
  obtain ⟨e3, hm⟩ := e2 h
  rw [e3]
  exact tail_same _ (List.all_eq_true.1 wf_rows _ hm) (List.all_eq_true.1 wf2_rows _ hm) i0 i1 i2 i3 i4 i5 i6 i7

theorem first3_true : corrallaw3_first.v = true := by kernel_rfl

theorem sameInst_rfl (i0 i1 i2 i3 i4 : Int) (i5 : BitVec 32) (i6 i7 : Bool) : corralref_SameInst.v i0 i1 i2 i3 i4 i5 i6 i7 i0 i1 i2 i3 i4 i5 i6 i7 = true := by
  unfold corralref_SameInst.v
  simp

theorem isaSays_true (w : BitVec 32) (i0 i1 i2 i3 i4 : Int) (i5 : BitVec 32) (i6 i7 : Bool) : corrallaw3_IsaSays.v w i0 i1 i2 i3 i4 i5 i6 i7 = true := by
  unfold corrallaw3_IsaSays.v
  have e := encode_same i0 i1 i2 i3 i4 i5 i6 i7
  unfold Rel at e
  simp [first3_true, decode_same, sameInst_rfl, e.1, e.2]
end Go.Ev
