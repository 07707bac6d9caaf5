/-
  Instructions, the plain law: each form's row of the program fits and decodes as the document's.
  Conditions: none.
-/
import Derived.Test.YtohkplmfihhhnaaDoorIsp
set_option linter.unusedVariables false
set_option linter.unusedSimpArgs false
set_option maxRecDepth 100000
namespace Go.Ev
open Go

theorem bif_ne {a b : BitVec 32} {c : Bool} : (bif a != b then false else c) = (a == b && c) := by cases h : a == b <;> simp [bne, h]
theorem bif_eq {a b : BitVec 32} {c : Bool} : (bif a == b then c else false) = (a == b && c) := by cases a == b <;> rfl
theorem condF {α : Type} {c : Bool} (h : c = false) {a b : α} : (bif c then a else b) = b := by subst h; rfl
theorem and1 (x : BitVec 32) : (x &&& 1#32) = 0#32 ∨ (x &&& 1#32) = 1#32 := by
  rcases Nat.mod_two_eq_zero_or_one x.toNat with h | h
  · left; apply BitVec.eq_of_toNat_eq; rw [BitVec.toNat_and]; show x.toNat &&& 1 = 0; rw [Nat.and_one_is_mod]; exact h
  · right; apply BitVec.eq_of_toNat_eq; rw [BitVec.toNat_and]; show x.toNat &&& 1 = 1; rw [Nat.and_one_is_mod]; exact h

theorem fitsR_gen (op : Int) (name : ByteArray) (oc f3 f7 : BitVec 32) (b3 b7 : Bool) (fm : BitVec 8) (rd rs1 rs2 csr : Bool) (w : BitVec 32) :
    (RRow.mk op name oc f3 f7 b3 b7 fm rd rs1 rs2 csr 0#32 false).fits w = (((((((oc ||| f3 <<< 12) ||| f7 <<< 25) ||| (corralref1_lay.v fm (corralref1_imm.v fm w)).1) ||| BitVec.ofInt 32 (bif rd then (BitVec.toNat (w >>> 7 &&& 31#32) : Int) else 0) <<< 7) |||
      BitVec.ofInt 32 (bif rs1 then (BitVec.toNat (w >>> 15 &&& 31#32) : Int) else 0) <<< 15) ||| BitVec.ofInt 32 (bif rs2 then (BitVec.toNat (w >>> 20 &&& 31#32) : Int) else 0) <<< 20) ||| BitVec.ofInt 32 (bif csr then (BitVec.toNat (w >>> 20 &&& 4095#32) : Int) else 0) <<< 20 == w) := by kernel_rfl

theorem evxI (w a b c : BitVec 32) : (pwI (imI (.v 0))).eval (env4 w a b c) = (pwI (imI (.v 0))).eval fun _ => w := eval_only0 rfl _ (by kernel_rfl)
theorem evxS (w a b c : BitVec 32) : (pwS (imS (.v 0))).eval (env4 w a b c) = (pwS (imS (.v 0))).eval fun _ => w := eval_only0 rfl _ (by kernel_rfl)
theorem evxB (w a b c : BitVec 32) : (pwB (imB (.v 0))).eval (env4 w a b c) = (pwB (imB (.v 0))).eval fun _ => w := eval_only0 rfl _ (by kernel_rfl)
theorem evxU (w a b c : BitVec 32) : (pwU (imU (.v 0))).eval (env4 w a b c) = (pwU (imU (.v 0))).eval fun _ => w := eval_only0 rfl _ (by kernel_rfl)
theorem evxJ (w a b c : BitVec 32) : (pwJ (imJ (.v 0))).eval (env4 w a b c) = (pwJ (imJ (.v 0))).eval fun _ => w := eval_only0 rfl _ (by kernel_rfl)
theorem fits0 (op : Int) (name : ByteArray) (kind : Int) (oc f3 f7 w : BitVec 32) (hoc : oc &&& 127#32 = oc) : (PRow.mk op name 0 oc f3 f7 kind).fits w = (RRow.mk op name oc 0#32 0#32 false false 85#8 true false false false 0#32 false).fits w := by
  have eP : (PRow.mk op name 0 oc f3 f7 kind).fits w = (bif w >>> 0 &&& 127#32 != oc then false else true) := by kernel_rfl
  rw [eP, fitsR_gen]
  simp only [bif_ne, bif_eq, cond_true, cond_false, ofInt_toNat, BitVec.reduceOfInt, layimmU]
  rw [Bool.eq_iff_iff]
  simp only [Bool.and_eq_true, beq_iff_eq, and_true]
  have key := wires (env4 w oc f3 f7) (L := [(.and (.shr (.v 0) 0) 127#32, .and (.v 1) 127#32)]) (L' := [((.or (.or (.or (.or (.or (.or (.or (.and (.v 1) 127#32) (.shl (.c 0#32) 12)) (.shl (.c 0#32) 25)) (pwU (imU (.v 0)))) (.shl (.and (.shr (.v 0) 7) 31#32) 7)) (.shl (.c 0#32) 15)) (.shl (.c 0#32) 20)) (.shl (.c 0#32) 20)), .v 0)]) (by kernel_rfl)
  simp only [List.forall_mem_cons, List.not_mem_nil, false_implies, implies_true, and_true, WE.eval, env4, evxU, hoc] at key
  exact key
theorem dec0 (op : Int) (name : ByteArray) (kind : Int) (oc f3 f7 w : BitVec 32) : (PRow.mk op name 0 oc f3 f7 kind).dec w = (RRow.mk op name oc 0#32 0#32 false false 85#8 true false false false 0#32 false).dec w := by
  have eP : (PRow.mk op name 0 oc f3 f7 kind).dec w = (op, (BitVec.toNat (w >>> 7 &&& 31#32) : Int), (0 : Int), (0 : Int), (0 : Int), isa_row_imm.v op name 0 oc f3 f7 kind w, false, false) := by kernel_rfl
  have eI : isa_row_imm.v op name 0 oc f3 f7 kind w = enc_Imm.v (isa_row_format.v op name 0 oc f3 f7 kind) w := by
    unfold isa_row_imm.v
    rw [condF (c := ((0 : Int) == 5)) (by decide), condF (c := ((0 : Int) == 7)) (by decide), condF (c := ((0 : Int) == 11)) (by decide)]
  have eF : isa_row_format.v op name 0 oc f3 f7 kind = 85#8 := by kernel_rfl
  have eR : (RRow.mk op name oc 0#32 0#32 false false 85#8 true false false false 0#32 false).dec w = (op, (BitVec.toNat (w >>> 7 &&& 31#32) : Int), (0 : Int), (0 : Int), (0 : Int), corralref1_imm.v 85#8 w, false, false) := by kernel_rfl
  have eJ : corralref1_imm.v 85#8 w = corralref1_Imm.v 85#8 w := by
    unfold corralref1_imm.v
    rw [condF (c := (85#8 == 90#8)) (by decide), condF (c := (85#8 == 67#8)) (by decide), condF (c := (85#8 == 70#8)) (by decide)]
  rw [eP, eR, eI, eF, immU_pr, eJ]

theorem fits1 (op : Int) (name : ByteArray) (kind : Int) (oc f3 f7 w : BitVec 32) (hoc : oc &&& 127#32 = oc) : (PRow.mk op name 1 oc f3 f7 kind).fits w = (RRow.mk op name oc 0#32 0#32 false false 74#8 true false false false 0#32 false).fits w := by
  have eP : (PRow.mk op name 1 oc f3 f7 kind).fits w = (bif w >>> 0 &&& 127#32 != oc then false else true) := by kernel_rfl
  rw [eP, fitsR_gen]
  simp only [bif_ne, bif_eq, cond_true, cond_false, ofInt_toNat, BitVec.reduceOfInt, layimmJ]
  rw [Bool.eq_iff_iff]
  simp only [Bool.and_eq_true, beq_iff_eq, and_true]
  have key := wires (env4 w oc f3 f7) (L := [(.and (.shr (.v 0) 0) 127#32, .and (.v 1) 127#32)]) (L' := [((.or (.or (.or (.or (.or (.or (.or (.and (.v 1) 127#32) (.shl (.c 0#32) 12)) (.shl (.c 0#32) 25)) (pwJ (imJ (.v 0)))) (.shl (.and (.shr (.v 0) 7) 31#32) 7)) (.shl (.c 0#32) 15)) (.shl (.c 0#32) 20)) (.shl (.c 0#32) 20)), .v 0)]) (by kernel_rfl)
  simp only [List.forall_mem_cons, List.not_mem_nil, false_implies, implies_true, and_true, WE.eval, env4, evxJ, hoc] at key
  exact key
theorem dec1 (op : Int) (name : ByteArray) (kind : Int) (oc f3 f7 w : BitVec 32) : (PRow.mk op name 1 oc f3 f7 kind).dec w = (RRow.mk op name oc 0#32 0#32 false false 74#8 true false false false 0#32 false).dec w := by
  have eP : (PRow.mk op name 1 oc f3 f7 kind).dec w = (op, (BitVec.toNat (w >>> 7 &&& 31#32) : Int), (0 : Int), (0 : Int), (0 : Int), isa_row_imm.v op name 1 oc f3 f7 kind w, false, false) := by kernel_rfl
  have eI : isa_row_imm.v op name 1 oc f3 f7 kind w = enc_Imm.v (isa_row_format.v op name 1 oc f3 f7 kind) w := by
    unfold isa_row_imm.v
    rw [condF (c := ((1 : Int) == 5)) (by decide), condF (c := ((1 : Int) == 7)) (by decide), condF (c := ((1 : Int) == 11)) (by decide)]
  have eF : isa_row_format.v op name 1 oc f3 f7 kind = 74#8 := by kernel_rfl
  have eR : (RRow.mk op name oc 0#32 0#32 false false 74#8 true false false false 0#32 false).dec w = (op, (BitVec.toNat (w >>> 7 &&& 31#32) : Int), (0 : Int), (0 : Int), (0 : Int), corralref1_imm.v 74#8 w, false, false) := by kernel_rfl
  have eJ : corralref1_imm.v 74#8 w = corralref1_Imm.v 74#8 w := by
    unfold corralref1_imm.v
    rw [condF (c := (74#8 == 90#8)) (by decide), condF (c := (74#8 == 67#8)) (by decide), condF (c := (74#8 == 70#8)) (by decide)]
  rw [eP, eR, eI, eF, immJ_pr, eJ]

theorem fits2 (op : Int) (name : ByteArray) (kind : Int) (oc f3 f7 w : BitVec 32) (hoc : oc &&& 127#32 = oc) (h3 : f3 &&& 7#32 = f3) : (PRow.mk op name 2 oc f3 f7 kind).fits w = (RRow.mk op name oc f3 0#32 true false 73#8 true true false false 0#32 false).fits w := by
  have eP : (PRow.mk op name 2 oc f3 f7 kind).fits w = (bif w >>> 0 &&& 127#32 != oc then false else (w >>> 12 &&& 7#32 == f3)) := by kernel_rfl
  rw [eP, fitsR_gen]
  simp only [bif_ne, bif_eq, cond_true, cond_false, ofInt_toNat, BitVec.reduceOfInt, layimmI]
  rw [Bool.eq_iff_iff]
  simp only [Bool.and_eq_true, beq_iff_eq, and_true]
  have key := wires (env4 w oc f3 f7) (L := [(.and (.shr (.v 0) 0) 127#32, .and (.v 1) 127#32), (.and (.shr (.v 0) 12) 7#32, .and (.v 2) 7#32)]) (L' := [((.or (.or (.or (.or (.or (.or (.or (.and (.v 1) 127#32) (.shl (.and (.v 2) 7#32) 12)) (.shl (.c 0#32) 25)) (pwI (imI (.v 0)))) (.shl (.and (.shr (.v 0) 7) 31#32) 7)) (.shl (.and (.shr (.v 0) 15) 31#32) 15)) (.shl (.c 0#32) 20)) (.shl (.c 0#32) 20)), .v 0)]) (by kernel_rfl)
  simp only [List.forall_mem_cons, List.not_mem_nil, false_implies, implies_true, and_true, WE.eval, env4, evxI, hoc, h3] at key
  exact key
theorem dec2 (op : Int) (name : ByteArray) (kind : Int) (oc f3 f7 w : BitVec 32) : (PRow.mk op name 2 oc f3 f7 kind).dec w = (RRow.mk op name oc f3 0#32 true false 73#8 true true false false 0#32 false).dec w := by
  have eP : (PRow.mk op name 2 oc f3 f7 kind).dec w = (op, (BitVec.toNat (w >>> 7 &&& 31#32) : Int), (BitVec.toNat (w >>> 15 &&& 31#32) : Int), (0 : Int), (0 : Int), isa_row_imm.v op name 2 oc f3 f7 kind w, false, false) := by kernel_rfl
  have eI : isa_row_imm.v op name 2 oc f3 f7 kind w = enc_Imm.v (isa_row_format.v op name 2 oc f3 f7 kind) w := by
    unfold isa_row_imm.v
    rw [condF (c := ((2 : Int) == 5)) (by decide), condF (c := ((2 : Int) == 7)) (by decide), condF (c := ((2 : Int) == 11)) (by decide)]
  have eF : isa_row_format.v op name 2 oc f3 f7 kind = 73#8 := by kernel_rfl
  have eR : (RRow.mk op name oc f3 0#32 true false 73#8 true true false false 0#32 false).dec w = (op, (BitVec.toNat (w >>> 7 &&& 31#32) : Int), (BitVec.toNat (w >>> 15 &&& 31#32) : Int), (0 : Int), (0 : Int), corralref1_imm.v 73#8 w, false, false) := by kernel_rfl
  have eJ : corralref1_imm.v 73#8 w = corralref1_Imm.v 73#8 w := by
    unfold corralref1_imm.v
    rw [condF (c := (73#8 == 90#8)) (by decide), condF (c := (73#8 == 67#8)) (by decide), condF (c := (73#8 == 70#8)) (by decide)]
  rw [eP, eR, eI, eF, immI_pr, eJ]

theorem fits3 (op : Int) (name : ByteArray) (kind : Int) (oc f3 f7 w : BitVec 32) (hoc : oc &&& 127#32 = oc) (h3 : f3 &&& 7#32 = f3) : (PRow.mk op name 3 oc f3 f7 kind).fits w = (RRow.mk op name oc f3 0#32 true false 66#8 false true true false 0#32 false).fits w := by
  have eP : (PRow.mk op name 3 oc f3 f7 kind).fits w = (bif w >>> 0 &&& 127#32 != oc then false else (w >>> 12 &&& 7#32 == f3)) := by kernel_rfl
  rw [eP, fitsR_gen]
  simp only [bif_ne, bif_eq, cond_true, cond_false, ofInt_toNat, BitVec.reduceOfInt, layimmB]
  rw [Bool.eq_iff_iff]
  simp only [Bool.and_eq_true, beq_iff_eq, and_true]
  have key := wires (env4 w oc f3 f7) (L := [(.and (.shr (.v 0) 0) 127#32, .and (.v 1) 127#32), (.and (.shr (.v 0) 12) 7#32, .and (.v 2) 7#32)]) (L' := [((.or (.or (.or (.or (.or (.or (.or (.and (.v 1) 127#32) (.shl (.and (.v 2) 7#32) 12)) (.shl (.c 0#32) 25)) (pwB (imB (.v 0)))) (.shl (.c 0#32) 7)) (.shl (.and (.shr (.v 0) 15) 31#32) 15)) (.shl (.and (.shr (.v 0) 20) 31#32) 20)) (.shl (.c 0#32) 20)), .v 0)]) (by kernel_rfl)
  simp only [List.forall_mem_cons, List.not_mem_nil, false_implies, implies_true, and_true, WE.eval, env4, evxB, hoc, h3] at key
  exact key
theorem dec3 (op : Int) (name : ByteArray) (kind : Int) (oc f3 f7 w : BitVec 32) : (PRow.mk op name 3 oc f3 f7 kind).dec w = (RRow.mk op name oc f3 0#32 true false 66#8 false true true false 0#32 false).dec w := by
  have eP : (PRow.mk op name 3 oc f3 f7 kind).dec w = (op, (0 : Int), (BitVec.toNat (w >>> 15 &&& 31#32) : Int), (BitVec.toNat (w >>> 20 &&& 31#32) : Int), (0 : Int), isa_row_imm.v op name 3 oc f3 f7 kind w, false, false) := by kernel_rfl
  have eI : isa_row_imm.v op name 3 oc f3 f7 kind w = enc_Imm.v (isa_row_format.v op name 3 oc f3 f7 kind) w := by
    unfold isa_row_imm.v
    rw [condF (c := ((3 : Int) == 5)) (by decide), condF (c := ((3 : Int) == 7)) (by decide), condF (c := ((3 : Int) == 11)) (by decide)]
  have eF : isa_row_format.v op name 3 oc f3 f7 kind = 66#8 := by kernel_rfl
  have eR : (RRow.mk op name oc f3 0#32 true false 66#8 false true true false 0#32 false).dec w = (op, (0 : Int), (BitVec.toNat (w >>> 15 &&& 31#32) : Int), (BitVec.toNat (w >>> 20 &&& 31#32) : Int), (0 : Int), corralref1_imm.v 66#8 w, false, false) := by kernel_rfl
  have eJ : corralref1_imm.v 66#8 w = corralref1_Imm.v 66#8 w := by
    unfold corralref1_imm.v
    rw [condF (c := (66#8 == 90#8)) (by decide), condF (c := (66#8 == 67#8)) (by decide), condF (c := (66#8 == 70#8)) (by decide)]
  rw [eP, eR, eI, eF, immB_pr, eJ]

theorem fits4 (op : Int) (name : ByteArray) (kind : Int) (oc f3 f7 w : BitVec 32) (hoc : oc &&& 127#32 = oc) (h3 : f3 &&& 7#32 = f3) : (PRow.mk op name 4 oc f3 f7 kind).fits w = (RRow.mk op name oc f3 0#32 true false 83#8 false true true false 0#32 false).fits w := by
  have eP : (PRow.mk op name 4 oc f3 f7 kind).fits w = (bif w >>> 0 &&& 127#32 != oc then false else (w >>> 12 &&& 7#32 == f3)) := by kernel_rfl
  rw [eP, fitsR_gen]
  simp only [bif_ne, bif_eq, cond_true, cond_false, ofInt_toNat, BitVec.reduceOfInt, layimmS]
  rw [Bool.eq_iff_iff]
  simp only [Bool.and_eq_true, beq_iff_eq, and_true]
  have key := wires (env4 w oc f3 f7) (L := [(.and (.shr (.v 0) 0) 127#32, .and (.v 1) 127#32), (.and (.shr (.v 0) 12) 7#32, .and (.v 2) 7#32)]) (L' := [((.or (.or (.or (.or (.or (.or (.or (.and (.v 1) 127#32) (.shl (.and (.v 2) 7#32) 12)) (.shl (.c 0#32) 25)) (pwS (imS (.v 0)))) (.shl (.c 0#32) 7)) (.shl (.and (.shr (.v 0) 15) 31#32) 15)) (.shl (.and (.shr (.v 0) 20) 31#32) 20)) (.shl (.c 0#32) 20)), .v 0)]) (by kernel_rfl)
  simp only [List.forall_mem_cons, List.not_mem_nil, false_implies, implies_true, and_true, WE.eval, env4, evxS, hoc, h3] at key
  exact key
theorem dec4 (op : Int) (name : ByteArray) (kind : Int) (oc f3 f7 w : BitVec 32) : (PRow.mk op name 4 oc f3 f7 kind).dec w = (RRow.mk op name oc f3 0#32 true false 83#8 false true true false 0#32 false).dec w := by
  have eP : (PRow.mk op name 4 oc f3 f7 kind).dec w = (op, (0 : Int), (BitVec.toNat (w >>> 15 &&& 31#32) : Int), (BitVec.toNat (w >>> 20 &&& 31#32) : Int), (0 : Int), isa_row_imm.v op name 4 oc f3 f7 kind w, false, false) := by kernel_rfl
  have eI : isa_row_imm.v op name 4 oc f3 f7 kind w = enc_Imm.v (isa_row_format.v op name 4 oc f3 f7 kind) w := by
    unfold isa_row_imm.v
    rw [condF (c := ((4 : Int) == 5)) (by decide), condF (c := ((4 : Int) == 7)) (by decide), condF (c := ((4 : Int) == 11)) (by decide)]
  have eF : isa_row_format.v op name 4 oc f3 f7 kind = 83#8 := by kernel_rfl
  have eR : (RRow.mk op name oc f3 0#32 true false 83#8 false true true false 0#32 false).dec w = (op, (0 : Int), (BitVec.toNat (w >>> 15 &&& 31#32) : Int), (BitVec.toNat (w >>> 20 &&& 31#32) : Int), (0 : Int), corralref1_imm.v 83#8 w, false, false) := by kernel_rfl
  have eJ : corralref1_imm.v 83#8 w = corralref1_Imm.v 83#8 w := by
    unfold corralref1_imm.v
    rw [condF (c := (83#8 == 90#8)) (by decide), condF (c := (83#8 == 67#8)) (by decide), condF (c := (83#8 == 70#8)) (by decide)]
  rw [eP, eR, eI, eF, immS_pr, eJ]

theorem fits5 (op : Int) (name : ByteArray) (kind : Int) (oc f3 f7 w : BitVec 32) (hoc : oc &&& 127#32 = oc) (h3 : f3 &&& 7#32 = f3) (h7 : f7 &&& 127#32 = f7) : (PRow.mk op name 5 oc f3 f7 kind).fits w = (RRow.mk op name oc f3 f7 true true 90#8 true true false false 0#32 false).fits w := by
  have eP : (PRow.mk op name 5 oc f3 f7 kind).fits w = (bif w >>> 0 &&& 127#32 != oc then false else (bif w >>> 12 &&& 7#32 == f3 then (w >>> 25 &&& 127#32 == f7) else false)) := by kernel_rfl
  have eR : (RRow.mk op name oc f3 f7 true true 90#8 true true false false 0#32 false).fits w = ((((((((oc ||| f3 <<< 12) ||| f7 <<< 25) ||| ((w >>> 20 &&& 31#32) <<< 20)) ||| BitVec.ofInt 32 (BitVec.toNat (w >>> 7 &&& 31#32) : Int) <<< 7) ||| BitVec.ofInt 32 (BitVec.toNat (w >>> 15 &&& 31#32) : Int) <<< 15) ||| 0#32 <<< 20) ||| 0#32 <<< 20) == w) := by kernel_rfl
  rw [eP, eR]
  simp only [bif_ne, bif_eq, ofInt_toNat]
  rw [Bool.eq_iff_iff]
  simp only [Bool.and_eq_true, beq_iff_eq, and_true]
  have key := wires (env4 w oc f3 f7) (L := [(.and (.shr (.v 0) 0) 127#32, .and (.v 1) 127#32), (.and (.shr (.v 0) 12) 7#32, .and (.v 2) 7#32), (.and (.shr (.v 0) 25) 127#32, .and (.v 3) 127#32)]) (L' := [((.or (.or (.or (.or (.or (.or (.or (.and (.v 1) 127#32) (.shl (.and (.v 2) 7#32) 12)) (.shl (.and (.v 3) 127#32) 25)) (.shl (.and (.shr (.v 0) 20) 31#32) 20)) (.shl (.and (.shr (.v 0) 7) 31#32) 7)) (.shl (.and (.shr (.v 0) 15) 31#32) 15)) (.shl (.c 0#32) 20)) (.shl (.c 0#32) 20)), .v 0)]) (by kernel_rfl)
  simp only [List.forall_mem_cons, List.not_mem_nil, false_implies, implies_true, and_true, WE.eval, env4, hoc, h3, h7] at key
  exact key
theorem dec5 (op : Int) (name : ByteArray) (kind : Int) (oc f3 f7 w : BitVec 32) : (PRow.mk op name 5 oc f3 f7 kind).dec w = (RRow.mk op name oc f3 f7 true true 90#8 true true false false 0#32 false).dec w := by kernel_rfl

theorem fits6 (op : Int) (name : ByteArray) (kind : Int) (oc f3 f7 w : BitVec 32) (hoc : oc &&& 127#32 = oc) (h3 : f3 &&& 7#32 = f3) (h7 : f7 &&& 127#32 = f7) : (PRow.mk op name 6 oc f3 f7 kind).fits w = (RRow.mk op name oc f3 f7 true true 0#8 true true true false 0#32 false).fits w := by
  have eP : (PRow.mk op name 6 oc f3 f7 kind).fits w = (bif w >>> 0 &&& 127#32 != oc then false else (bif w >>> 12 &&& 7#32 == f3 then (w >>> 25 &&& 127#32 == f7) else false)) := by kernel_rfl
  have eR : (RRow.mk op name oc f3 f7 true true 0#8 true true true false 0#32 false).fits w = ((((((((oc ||| f3 <<< 12) ||| f7 <<< 25) ||| 0#32) ||| BitVec.ofInt 32 (BitVec.toNat (w >>> 7 &&& 31#32) : Int) <<< 7) ||| BitVec.ofInt 32 (BitVec.toNat (w >>> 15 &&& 31#32) : Int) <<< 15) ||| BitVec.ofInt 32 (BitVec.toNat (w >>> 20 &&& 31#32) : Int) <<< 20) ||| 0#32 <<< 20) == w) := by kernel_rfl
  rw [eP, eR]
  simp only [bif_ne, bif_eq, ofInt_toNat]
  rw [Bool.eq_iff_iff]
  simp only [Bool.and_eq_true, beq_iff_eq, and_true]
  have key := wires (env4 w oc f3 f7) (L := [(.and (.shr (.v 0) 0) 127#32, .and (.v 1) 127#32), (.and (.shr (.v 0) 12) 7#32, .and (.v 2) 7#32), (.and (.shr (.v 0) 25) 127#32, .and (.v 3) 127#32)]) (L' := [((.or (.or (.or (.or (.or (.or (.or (.and (.v 1) 127#32) (.shl (.and (.v 2) 7#32) 12)) (.shl (.and (.v 3) 127#32) 25)) (.c 0#32)) (.shl (.and (.shr (.v 0) 7) 31#32) 7)) (.shl (.and (.shr (.v 0) 15) 31#32) 15)) (.shl (.and (.shr (.v 0) 20) 31#32) 20)) (.shl (.c 0#32) 20)), .v 0)]) (by kernel_rfl)
  simp only [List.forall_mem_cons, List.not_mem_nil, false_implies, implies_true, and_true, WE.eval, env4, hoc, h3, h7] at key
  exact key
theorem dec6 (op : Int) (name : ByteArray) (kind : Int) (oc f3 f7 w : BitVec 32) : (PRow.mk op name 6 oc f3 f7 kind).dec w = (RRow.mk op name oc f3 f7 true true 0#8 true true true false 0#32 false).dec w := by kernel_rfl

theorem fits7 (op : Int) (name : ByteArray) (kind : Int) (oc f3 f7 w : BitVec 32) (hoc : oc &&& 127#32 = oc) (h3 : f3 &&& 7#32 = f3) : (PRow.mk op name 7 oc f3 f7 kind).fits w = (RRow.mk op name oc f3 0#32 true false 70#8 false false false false 0#32 false).fits w := by
  have eP : (PRow.mk op name 7 oc f3 f7 kind).fits w = (bif w >>> 0 &&& 127#32 != oc then false else (bif w >>> 12 &&& 7#32 == f3 then (bif w >>> 7 &&& 31#32 == 0#32 then (bif w >>> 15 &&& 31#32 == 0#32 then (w >>> 28 &&& 15#32 == 0#32) else false) else false) else false)) := by kernel_rfl
  have eR : (RRow.mk op name oc f3 0#32 true false 70#8 false false false false 0#32 false).fits w = ((((((((oc ||| f3 <<< 12) ||| 0#32 <<< 25) ||| ((w >>> 20 &&& 255#32) <<< 20)) ||| 0#32 <<< 7) ||| 0#32 <<< 15) ||| 0#32 <<< 20) ||| 0#32 <<< 20) == w) := by kernel_rfl
  rw [eP, eR]
  simp only [bif_ne, bif_eq, ofInt_toNat]
  rw [Bool.eq_iff_iff]
  simp only [Bool.and_eq_true, beq_iff_eq, and_true]
  have key := wires (env4 w oc f3 f7) (L := [(.and (.shr (.v 0) 0) 127#32, .and (.v 1) 127#32), (.and (.shr (.v 0) 12) 7#32, .and (.v 2) 7#32), (.and (.shr (.v 0) 7) 31#32, .c 0#32), (.and (.shr (.v 0) 15) 31#32, .c 0#32), (.and (.shr (.v 0) 28) 15#32, .c 0#32)]) (L' := [((.or (.or (.or (.or (.or (.or (.or (.and (.v 1) 127#32) (.shl (.and (.v 2) 7#32) 12)) (.shl (.c 0#32) 25)) (.shl (.and (.shr (.v 0) 20) 255#32) 20)) (.shl (.c 0#32) 7)) (.shl (.c 0#32) 15)) (.shl (.c 0#32) 20)) (.shl (.c 0#32) 20)), .v 0)]) (by kernel_rfl)
  simp only [List.forall_mem_cons, List.not_mem_nil, false_implies, implies_true, and_true, WE.eval, env4, hoc, h3] at key
  exact key
theorem dec7 (op : Int) (name : ByteArray) (kind : Int) (oc f3 f7 w : BitVec 32) : (PRow.mk op name 7 oc f3 f7 kind).dec w = (RRow.mk op name oc f3 0#32 true false 70#8 false false false false 0#32 false).dec w := by kernel_rfl

theorem fits9 (op : Int) (name : ByteArray) (kind : Int) (oc f3 f7 w : BitVec 32) (hoc : oc &&& 127#32 = oc) (h3 : f3 &&& 7#32 = f3) (h7 : f7 &&& 127#32 = f7) : (PRow.mk op name 9 oc f3 f7 kind).fits w = (RRow.mk op name oc f3 f7 true true 0#8 false true true false 0#32 false).fits w := by
  have eP : (PRow.mk op name 9 oc f3 f7 kind).fits w = (bif w >>> 0 &&& 127#32 != oc then false else (bif w >>> 12 &&& 7#32 == f3 then (bif w >>> 25 &&& 127#32 == f7 then (w >>> 7 &&& 31#32 == 0#32) else false) else false)) := by kernel_rfl
  have eR : (RRow.mk op name oc f3 f7 true true 0#8 false true true false 0#32 false).fits w = ((((((((oc ||| f3 <<< 12) ||| f7 <<< 25) ||| 0#32) ||| 0#32 <<< 7) ||| BitVec.ofInt 32 (BitVec.toNat (w >>> 15 &&& 31#32) : Int) <<< 15) ||| BitVec.ofInt 32 (BitVec.toNat (w >>> 20 &&& 31#32) : Int) <<< 20) ||| 0#32 <<< 20) == w) := by kernel_rfl
  rw [eP, eR]
  simp only [bif_ne, bif_eq, ofInt_toNat]
  rw [Bool.eq_iff_iff]
  simp only [Bool.and_eq_true, beq_iff_eq, and_true]
  have key := wires (env4 w oc f3 f7) (L := [(.and (.shr (.v 0) 0) 127#32, .and (.v 1) 127#32), (.and (.shr (.v 0) 12) 7#32, .and (.v 2) 7#32), (.and (.shr (.v 0) 25) 127#32, .and (.v 3) 127#32), (.and (.shr (.v 0) 7) 31#32, .c 0#32)]) (L' := [((.or (.or (.or (.or (.or (.or (.or (.and (.v 1) 127#32) (.shl (.and (.v 2) 7#32) 12)) (.shl (.and (.v 3) 127#32) 25)) (.c 0#32)) (.shl (.c 0#32) 7)) (.shl (.and (.shr (.v 0) 15) 31#32) 15)) (.shl (.and (.shr (.v 0) 20) 31#32) 20)) (.shl (.c 0#32) 20)), .v 0)]) (by kernel_rfl)
  simp only [List.forall_mem_cons, List.not_mem_nil, false_implies, implies_true, and_true, WE.eval, env4, hoc, h3, h7] at key
  exact key
theorem dec9 (op : Int) (name : ByteArray) (kind : Int) (oc f3 f7 w : BitVec 32) : (PRow.mk op name 9 oc f3 f7 kind).dec w = (RRow.mk op name oc f3 f7 true true 0#8 false true true false 0#32 false).dec w := by kernel_rfl

theorem fits10 (op : Int) (name : ByteArray) (kind : Int) (oc f3 f7 w : BitVec 32) (hoc : oc &&& 127#32 = oc) (h3 : f3 &&& 7#32 = f3) : (PRow.mk op name 10 oc f3 f7 kind).fits w = (RRow.mk op name oc f3 0#32 true false 0#8 true true false true 0#32 false).fits w := by
  have eP : (PRow.mk op name 10 oc f3 f7 kind).fits w = (bif w >>> 0 &&& 127#32 != oc then false else (w >>> 12 &&& 7#32 == f3)) := by kernel_rfl
  have eR : (RRow.mk op name oc f3 0#32 true false 0#8 true true false true 0#32 false).fits w = ((((((((oc ||| f3 <<< 12) ||| 0#32 <<< 25) ||| 0#32) ||| BitVec.ofInt 32 (BitVec.toNat (w >>> 7 &&& 31#32) : Int) <<< 7) ||| BitVec.ofInt 32 (BitVec.toNat (w >>> 15 &&& 31#32) : Int) <<< 15) ||| 0#32 <<< 20) ||| BitVec.ofInt 32 (BitVec.toNat (w >>> 20 &&& 4095#32) : Int) <<< 20) == w) := by kernel_rfl
  rw [eP, eR]
  simp only [bif_ne, bif_eq, ofInt_toNat]
  rw [Bool.eq_iff_iff]
  simp only [Bool.and_eq_true, beq_iff_eq, and_true]
  have key := wires (env4 w oc f3 f7) (L := [(.and (.shr (.v 0) 0) 127#32, .and (.v 1) 127#32), (.and (.shr (.v 0) 12) 7#32, .and (.v 2) 7#32)]) (L' := [((.or (.or (.or (.or (.or (.or (.or (.and (.v 1) 127#32) (.shl (.and (.v 2) 7#32) 12)) (.shl (.c 0#32) 25)) (.c 0#32)) (.shl (.and (.shr (.v 0) 7) 31#32) 7)) (.shl (.and (.shr (.v 0) 15) 31#32) 15)) (.shl (.c 0#32) 20)) (.shl (.and (.shr (.v 0) 20) 4095#32) 20)), .v 0)]) (by kernel_rfl)
  simp only [List.forall_mem_cons, List.not_mem_nil, false_implies, implies_true, and_true, WE.eval, env4, hoc, h3] at key
  exact key
theorem dec10 (op : Int) (name : ByteArray) (kind : Int) (oc f3 f7 w : BitVec 32) : (PRow.mk op name 10 oc f3 f7 kind).dec w = (RRow.mk op name oc f3 0#32 true false 0#8 true true false true 0#32 false).dec w := by kernel_rfl

theorem fits11 (op : Int) (name : ByteArray) (kind : Int) (oc f3 f7 w : BitVec 32) (hoc : oc &&& 127#32 = oc) (h3 : f3 &&& 7#32 = f3) : (PRow.mk op name 11 oc f3 f7 kind).fits w = (RRow.mk op name oc f3 0#32 true false 67#8 true false false true 0#32 false).fits w := by
  have eP : (PRow.mk op name 11 oc f3 f7 kind).fits w = (bif w >>> 0 &&& 127#32 != oc then false else (w >>> 12 &&& 7#32 == f3)) := by kernel_rfl
  have eR : (RRow.mk op name oc f3 0#32 true false 67#8 true false false true 0#32 false).fits w = ((((((((oc ||| f3 <<< 12) ||| 0#32 <<< 25) ||| ((w >>> 15 &&& 31#32) <<< 15)) ||| BitVec.ofInt 32 (BitVec.toNat (w >>> 7 &&& 31#32) : Int) <<< 7) ||| 0#32 <<< 15) ||| 0#32 <<< 20) ||| BitVec.ofInt 32 (BitVec.toNat (w >>> 20 &&& 4095#32) : Int) <<< 20) == w) := by kernel_rfl
  rw [eP, eR]
  simp only [bif_ne, bif_eq, ofInt_toNat]
  rw [Bool.eq_iff_iff]
  simp only [Bool.and_eq_true, beq_iff_eq, and_true]
  have key := wires (env4 w oc f3 f7) (L := [(.and (.shr (.v 0) 0) 127#32, .and (.v 1) 127#32), (.and (.shr (.v 0) 12) 7#32, .and (.v 2) 7#32)]) (L' := [((.or (.or (.or (.or (.or (.or (.or (.and (.v 1) 127#32) (.shl (.and (.v 2) 7#32) 12)) (.shl (.c 0#32) 25)) (.shl (.and (.shr (.v 0) 15) 31#32) 15)) (.shl (.and (.shr (.v 0) 7) 31#32) 7)) (.shl (.c 0#32) 15)) (.shl (.c 0#32) 20)) (.shl (.and (.shr (.v 0) 20) 4095#32) 20)), .v 0)]) (by kernel_rfl)
  simp only [List.forall_mem_cons, List.not_mem_nil, false_implies, implies_true, and_true, WE.eval, env4, hoc, h3] at key
  exact key
theorem dec11 (op : Int) (name : ByteArray) (kind : Int) (oc f3 f7 w : BitVec 32) : (PRow.mk op name 11 oc f3 f7 kind).dec w = (RRow.mk op name oc f3 0#32 true false 67#8 true false false true 0#32 false).dec w := by kernel_rfl

theorem fits12 (op : Int) (name : ByteArray) (kind : Int) (oc f3 f7 w : BitVec 32) (hoc : oc &&& 127#32 = oc) (h3 : f3 &&& 7#32 = f3) (h7 : f7 &&& 31#32 = f7) : (PRow.mk op name 12 oc f3 f7 kind).fits w = (RRow.mk op name oc f3 f7 true true 0#8 true true false false 0#32 true).fits w := by
  have eP : (PRow.mk op name 12 oc f3 f7 kind).fits w = (bif w >>> 0 &&& 127#32 != oc then false else (bif w >>> 12 &&& 7#32 == f3 then (bif (w >>> 25 &&& 127#32) >>> 2 == f7 then (w >>> 20 &&& 31#32 == 0#32) else false) else false)) := by kernel_rfl
  have eR : (RRow.mk op name oc f3 f7 true true 0#8 true true false false 0#32 true).fits w = ((bif (w >>> 26 &&& 1#32 == 1#32) then (bif (w >>> 25 &&& 1#32 == 1#32) then (((((((((oc ||| f3 <<< 12) ||| f7 <<< 27) ||| 67108864#32) ||| 33554432#32) ||| 0#32) ||| BitVec.ofInt 32 (BitVec.toNat (w >>> 7 &&& 31#32) : Int) <<< 7) ||| BitVec.ofInt 32 (BitVec.toNat (w >>> 15 &&& 31#32) : Int) <<< 15) ||| 0#32 <<< 20) ||| 0#32 <<< 20) else ((((((((oc ||| f3 <<< 12) ||| f7 <<< 27) ||| 67108864#32) ||| 0#32) ||| BitVec.ofInt 32 (BitVec.toNat (w >>> 7 &&& 31#32) : Int) <<< 7) ||| BitVec.ofInt 32 (BitVec.toNat (w >>> 15 &&& 31#32) : Int) <<< 15) ||| 0#32 <<< 20) ||| 0#32 <<< 20)) else (bif (w >>> 25 &&& 1#32 == 1#32) then ((((((((oc ||| f3 <<< 12) ||| f7 <<< 27) ||| 33554432#32) ||| 0#32) ||| BitVec.ofInt 32 (BitVec.toNat (w >>> 7 &&& 31#32) : Int) <<< 7) ||| BitVec.ofInt 32 (BitVec.toNat (w >>> 15 &&& 31#32) : Int) <<< 15) ||| 0#32 <<< 20) ||| 0#32 <<< 20) else (((((((oc ||| f3 <<< 12) ||| f7 <<< 27) ||| 0#32) ||| BitVec.ofInt 32 (BitVec.toNat (w >>> 7 &&& 31#32) : Int) <<< 7) ||| BitVec.ofInt 32 (BitVec.toNat (w >>> 15 &&& 31#32) : Int) <<< 15) ||| 0#32 <<< 20) ||| 0#32 <<< 20))) == w) := by kernel_rfl
  rw [eP, eR]
  simp only [bif_ne, bif_eq, ofInt_toNat]
  rw [Bool.eq_iff_iff]
  rcases and1 (w >>> 26) with h26 | h26 <;> rcases and1 (w >>> 25) with h25 | h25 <;> rw [h26, h25]
  · have key := wires (env4 w oc f3 f7) (L := [(.and (.shr (.v 0) 0) 127#32, .and (.v 1) 127#32), (.and (.shr (.v 0) 12) 7#32, .and (.v 2) 7#32), (.shr (.and (.shr (.v 0) 25) 127#32) 2, .and (.v 3) 31#32), (.and (.shr (.v 0) 20) 31#32, .c 0#32), (.and (.shr (.v 0) 26) 1#32, .c 0#32), (.and (.shr (.v 0) 25) 1#32, .c 0#32)]) (L' := [((.or (.or (.or (.or (.or (.or (.or (.and (.v 1) 127#32) (.shl (.and (.v 2) 7#32) 12)) (.shl (.and (.v 3) 31#32) 27)) (.c 0#32)) (.shl (.and (.shr (.v 0) 7) 31#32) 7)) (.shl (.and (.shr (.v 0) 15) 31#32) 15)) (.shl (.c 0#32) 20)) (.shl (.c 0#32) 20)), .v 0), (.and (.shr (.v 0) 26) 1#32, .c 0#32), (.and (.shr (.v 0) 25) 1#32, .c 0#32)]) (by kernel_rfl)
    simp only [List.forall_mem_cons, List.not_mem_nil, false_implies, implies_true, and_true, WE.eval, env4, hoc, h3, h7, h26, h25] at key
    simpa only [Bool.and_eq_true, beq_iff_eq, and_true, beq_self_eq_true, cond_true, cond_false, show ((0#32 : BitVec 32) == 1#32) = false from rfl] using key
  · have key := wires (env4 w oc f3 f7) (L := [(.and (.shr (.v 0) 0) 127#32, .and (.v 1) 127#32), (.and (.shr (.v 0) 12) 7#32, .and (.v 2) 7#32), (.shr (.and (.shr (.v 0) 25) 127#32) 2, .and (.v 3) 31#32), (.and (.shr (.v 0) 20) 31#32, .c 0#32), (.and (.shr (.v 0) 26) 1#32, .c 0#32), (.and (.shr (.v 0) 25) 1#32, .c 1#32)]) (L' := [((.or (.or (.or (.or (.or (.or (.or (.or (.and (.v 1) 127#32) (.shl (.and (.v 2) 7#32) 12)) (.shl (.and (.v 3) 31#32) 27)) (.c 33554432#32)) (.c 0#32)) (.shl (.and (.shr (.v 0) 7) 31#32) 7)) (.shl (.and (.shr (.v 0) 15) 31#32) 15)) (.shl (.c 0#32) 20)) (.shl (.c 0#32) 20)), .v 0), (.and (.shr (.v 0) 26) 1#32, .c 0#32), (.and (.shr (.v 0) 25) 1#32, .c 1#32)]) (by kernel_rfl)
    simp only [List.forall_mem_cons, List.not_mem_nil, false_implies, implies_true, and_true, WE.eval, env4, hoc, h3, h7, h26, h25] at key
    simpa only [Bool.and_eq_true, beq_iff_eq, and_true, beq_self_eq_true, cond_true, cond_false, show ((0#32 : BitVec 32) == 1#32) = false from rfl] using key
  · have key := wires (env4 w oc f3 f7) (L := [(.and (.shr (.v 0) 0) 127#32, .and (.v 1) 127#32), (.and (.shr (.v 0) 12) 7#32, .and (.v 2) 7#32), (.shr (.and (.shr (.v 0) 25) 127#32) 2, .and (.v 3) 31#32), (.and (.shr (.v 0) 20) 31#32, .c 0#32), (.and (.shr (.v 0) 26) 1#32, .c 1#32), (.and (.shr (.v 0) 25) 1#32, .c 0#32)]) (L' := [((.or (.or (.or (.or (.or (.or (.or (.or (.and (.v 1) 127#32) (.shl (.and (.v 2) 7#32) 12)) (.shl (.and (.v 3) 31#32) 27)) (.c 67108864#32)) (.c 0#32)) (.shl (.and (.shr (.v 0) 7) 31#32) 7)) (.shl (.and (.shr (.v 0) 15) 31#32) 15)) (.shl (.c 0#32) 20)) (.shl (.c 0#32) 20)), .v 0), (.and (.shr (.v 0) 26) 1#32, .c 1#32), (.and (.shr (.v 0) 25) 1#32, .c 0#32)]) (by kernel_rfl)
    simp only [List.forall_mem_cons, List.not_mem_nil, false_implies, implies_true, and_true, WE.eval, env4, hoc, h3, h7, h26, h25] at key
    simpa only [Bool.and_eq_true, beq_iff_eq, and_true, beq_self_eq_true, cond_true, cond_false, show ((0#32 : BitVec 32) == 1#32) = false from rfl] using key
  · have key := wires (env4 w oc f3 f7) (L := [(.and (.shr (.v 0) 0) 127#32, .and (.v 1) 127#32), (.and (.shr (.v 0) 12) 7#32, .and (.v 2) 7#32), (.shr (.and (.shr (.v 0) 25) 127#32) 2, .and (.v 3) 31#32), (.and (.shr (.v 0) 20) 31#32, .c 0#32), (.and (.shr (.v 0) 26) 1#32, .c 1#32), (.and (.shr (.v 0) 25) 1#32, .c 1#32)]) (L' := [((.or (.or (.or (.or (.or (.or (.or (.or (.or (.and (.v 1) 127#32) (.shl (.and (.v 2) 7#32) 12)) (.shl (.and (.v 3) 31#32) 27)) (.c 67108864#32)) (.c 33554432#32)) (.c 0#32)) (.shl (.and (.shr (.v 0) 7) 31#32) 7)) (.shl (.and (.shr (.v 0) 15) 31#32) 15)) (.shl (.c 0#32) 20)) (.shl (.c 0#32) 20)), .v 0), (.and (.shr (.v 0) 26) 1#32, .c 1#32), (.and (.shr (.v 0) 25) 1#32, .c 1#32)]) (by kernel_rfl)
    simp only [List.forall_mem_cons, List.not_mem_nil, false_implies, implies_true, and_true, WE.eval, env4, hoc, h3, h7, h26, h25] at key
    simpa only [Bool.and_eq_true, beq_iff_eq, and_true, beq_self_eq_true, cond_true, cond_false, show ((0#32 : BitVec 32) == 1#32) = false from rfl] using key
theorem dec12 (op : Int) (name : ByteArray) (kind : Int) (oc f3 f7 w : BitVec 32) : (PRow.mk op name 12 oc f3 f7 kind).dec w = (RRow.mk op name oc f3 f7 true true 0#8 true true false false 0#32 true).dec w := by kernel_rfl

theorem fits13 (op : Int) (name : ByteArray) (kind : Int) (oc f3 f7 w : BitVec 32) (hoc : oc &&& 127#32 = oc) (h3 : f3 &&& 7#32 = f3) (h7 : f7 &&& 31#32 = f7) : (PRow.mk op name 13 oc f3 f7 kind).fits w = (RRow.mk op name oc f3 f7 true true 0#8 true true true false 0#32 true).fits w := by
  have eP : (PRow.mk op name 13 oc f3 f7 kind).fits w = (bif w >>> 0 &&& 127#32 != oc then false else (bif w >>> 12 &&& 7#32 == f3 then ((w >>> 25 &&& 127#32) >>> 2 == f7) else false)) := by kernel_rfl
  have eR : (RRow.mk op name oc f3 f7 true true 0#8 true true true false 0#32 true).fits w = ((bif (w >>> 26 &&& 1#32 == 1#32) then (bif (w >>> 25 &&& 1#32 == 1#32) then (((((((((oc ||| f3 <<< 12) ||| f7 <<< 27) ||| 67108864#32) ||| 33554432#32) ||| 0#32) ||| BitVec.ofInt 32 (BitVec.toNat (w >>> 7 &&& 31#32) : Int) <<< 7) ||| BitVec.ofInt 32 (BitVec.toNat (w >>> 15 &&& 31#32) : Int) <<< 15) ||| BitVec.ofInt 32 (BitVec.toNat (w >>> 20 &&& 31#32) : Int) <<< 20) ||| 0#32 <<< 20) else ((((((((oc ||| f3 <<< 12) ||| f7 <<< 27) ||| 67108864#32) ||| 0#32) ||| BitVec.ofInt 32 (BitVec.toNat (w >>> 7 &&& 31#32) : Int) <<< 7) ||| BitVec.ofInt 32 (BitVec.toNat (w >>> 15 &&& 31#32) : Int) <<< 15) ||| BitVec.ofInt 32 (BitVec.toNat (w >>> 20 &&& 31#32) : Int) <<< 20) ||| 0#32 <<< 20)) else (bif (w >>> 25 &&& 1#32 == 1#32) then ((((((((oc ||| f3 <<< 12) ||| f7 <<< 27) ||| 33554432#32) ||| 0#32) ||| BitVec.ofInt 32 (BitVec.toNat (w >>> 7 &&& 31#32) : Int) <<< 7) ||| BitVec.ofInt 32 (BitVec.toNat (w >>> 15 &&& 31#32) : Int) <<< 15) ||| BitVec.ofInt 32 (BitVec.toNat (w >>> 20 &&& 31#32) : Int) <<< 20) ||| 0#32 <<< 20) else (((((((oc ||| f3 <<< 12) ||| f7 <<< 27) ||| 0#32) ||| BitVec.ofInt 32 (BitVec.toNat (w >>> 7 &&& 31#32) : Int) <<< 7) ||| BitVec.ofInt 32 (BitVec.toNat (w >>> 15 &&& 31#32) : Int) <<< 15) ||| BitVec.ofInt 32 (BitVec.toNat (w >>> 20 &&& 31#32) : Int) <<< 20) ||| 0#32 <<< 20))) == w) := by kernel_rfl
  rw [eP, eR]
  simp only [bif_ne, bif_eq, ofInt_toNat]
  rw [Bool.eq_iff_iff]
  rcases and1 (w >>> 26) with h26 | h26 <;> rcases and1 (w >>> 25) with h25 | h25 <;> rw [h26, h25]
  · have key := wires (env4 w oc f3 f7) (L := [(.and (.shr (.v 0) 0) 127#32, .and (.v 1) 127#32), (.and (.shr (.v 0) 12) 7#32, .and (.v 2) 7#32), (.shr (.and (.shr (.v 0) 25) 127#32) 2, .and (.v 3) 31#32), (.and (.shr (.v 0) 26) 1#32, .c 0#32), (.and (.shr (.v 0) 25) 1#32, .c 0#32)]) (L' := [((.or (.or (.or (.or (.or (.or (.or (.and (.v 1) 127#32) (.shl (.and (.v 2) 7#32) 12)) (.shl (.and (.v 3) 31#32) 27)) (.c 0#32)) (.shl (.and (.shr (.v 0) 7) 31#32) 7)) (.shl (.and (.shr (.v 0) 15) 31#32) 15)) (.shl (.and (.shr (.v 0) 20) 31#32) 20)) (.shl (.c 0#32) 20)), .v 0), (.and (.shr (.v 0) 26) 1#32, .c 0#32), (.and (.shr (.v 0) 25) 1#32, .c 0#32)]) (by kernel_rfl)
    simp only [List.forall_mem_cons, List.not_mem_nil, false_implies, implies_true, and_true, WE.eval, env4, hoc, h3, h7, h26, h25] at key
    simpa only [Bool.and_eq_true, beq_iff_eq, and_true, beq_self_eq_true, cond_true, cond_false, show ((0#32 : BitVec 32) == 1#32) = false from rfl] using key
  · have key := wires (env4 w oc f3 f7) (L := [(.and (.shr (.v 0) 0) 127#32, .and (.v 1) 127#32), (.and (.shr (.v 0) 12) 7#32, .and (.v 2) 7#32), (.shr (.and (.shr (.v 0) 25) 127#32) 2, .and (.v 3) 31#32), (.and (.shr (.v 0) 26) 1#32, .c 0#32), (.and (.shr (.v 0) 25) 1#32, .c 1#32)]) (L' := [((.or (.or (.or (.or (.or (.or (.or (.or (.and (.v 1) 127#32) (.shl (.and (.v 2) 7#32) 12)) (.shl (.and (.v 3) 31#32) 27)) (.c 33554432#32)) (.c 0#32)) (.shl (.and (.shr (.v 0) 7) 31#32) 7)) (.shl (.and (.shr (.v 0) 15) 31#32) 15)) (.shl (.and (.shr (.v 0) 20) 31#32) 20)) (.shl (.c 0#32) 20)), .v 0), (.and (.shr (.v 0) 26) 1#32, .c 0#32), (.and (.shr (.v 0) 25) 1#32, .c 1#32)]) (by kernel_rfl)
    simp only [List.forall_mem_cons, List.not_mem_nil, false_implies, implies_true, and_true, WE.eval, env4, hoc, h3, h7, h26, h25] at key
    simpa only [Bool.and_eq_true, beq_iff_eq, and_true, beq_self_eq_true, cond_true, cond_false, show ((0#32 : BitVec 32) == 1#32) = false from rfl] using key
  · have key := wires (env4 w oc f3 f7) (L := [(.and (.shr (.v 0) 0) 127#32, .and (.v 1) 127#32), (.and (.shr (.v 0) 12) 7#32, .and (.v 2) 7#32), (.shr (.and (.shr (.v 0) 25) 127#32) 2, .and (.v 3) 31#32), (.and (.shr (.v 0) 26) 1#32, .c 1#32), (.and (.shr (.v 0) 25) 1#32, .c 0#32)]) (L' := [((.or (.or (.or (.or (.or (.or (.or (.or (.and (.v 1) 127#32) (.shl (.and (.v 2) 7#32) 12)) (.shl (.and (.v 3) 31#32) 27)) (.c 67108864#32)) (.c 0#32)) (.shl (.and (.shr (.v 0) 7) 31#32) 7)) (.shl (.and (.shr (.v 0) 15) 31#32) 15)) (.shl (.and (.shr (.v 0) 20) 31#32) 20)) (.shl (.c 0#32) 20)), .v 0), (.and (.shr (.v 0) 26) 1#32, .c 1#32), (.and (.shr (.v 0) 25) 1#32, .c 0#32)]) (by kernel_rfl)
    simp only [List.forall_mem_cons, List.not_mem_nil, false_implies, implies_true, and_true, WE.eval, env4, hoc, h3, h7, h26, h25] at key
    simpa only [Bool.and_eq_true, beq_iff_eq, and_true, beq_self_eq_true, cond_true, cond_false, show ((0#32 : BitVec 32) == 1#32) = false from rfl] using key
  · have key := wires (env4 w oc f3 f7) (L := [(.and (.shr (.v 0) 0) 127#32, .and (.v 1) 127#32), (.and (.shr (.v 0) 12) 7#32, .and (.v 2) 7#32), (.shr (.and (.shr (.v 0) 25) 127#32) 2, .and (.v 3) 31#32), (.and (.shr (.v 0) 26) 1#32, .c 1#32), (.and (.shr (.v 0) 25) 1#32, .c 1#32)]) (L' := [((.or (.or (.or (.or (.or (.or (.or (.or (.or (.and (.v 1) 127#32) (.shl (.and (.v 2) 7#32) 12)) (.shl (.and (.v 3) 31#32) 27)) (.c 67108864#32)) (.c 33554432#32)) (.c 0#32)) (.shl (.and (.shr (.v 0) 7) 31#32) 7)) (.shl (.and (.shr (.v 0) 15) 31#32) 15)) (.shl (.and (.shr (.v 0) 20) 31#32) 20)) (.shl (.c 0#32) 20)), .v 0), (.and (.shr (.v 0) 26) 1#32, .c 1#32), (.and (.shr (.v 0) 25) 1#32, .c 1#32)]) (by kernel_rfl)
    simp only [List.forall_mem_cons, List.not_mem_nil, false_implies, implies_true, and_true, WE.eval, env4, hoc, h3, h7, h26, h25] at key
    simpa only [Bool.and_eq_true, beq_iff_eq, and_true, beq_self_eq_true, cond_true, cond_false, show ((0#32 : BitVec 32) == 1#32) = false from rfl] using key
theorem dec13 (op : Int) (name : ByteArray) (kind : Int) (oc f3 f7 w : BitVec 32) : (PRow.mk op name 13 oc f3 f7 kind).dec w = (RRow.mk op name oc f3 f7 true true 0#8 true true true false 0#32 true).dec w := by kernel_rfl


def PRow.conv (r : PRow) : RRow :=
  let f := r.form
  let i := fun (l : List Int) => l.contains f
  bif f == 8 then ⟨r.op, r.name, 0#32, 0#32, 0#32, false, false, 0#8, false, false, false, false, r.oc, false⟩ else
  ⟨r.op, r.name, r.oc, bif i [0, 1] then 0#32 else r.f3, bif i [5, 6, 9, 12, 13] then r.f7 else 0#32, !i [0, 1], i [5, 6, 9, 12, 13],
    bif f == 0 then 85#8 else bif f == 1 then 74#8 else bif f == 2 then 73#8 else bif f == 3 then 66#8 else bif f == 4 then 83#8 else bif f == 5 then 90#8 else bif f == 7 then 70#8 else bif f == 11 then 67#8 else 0#8,
    i [0, 1, 2, 5, 6, 10, 11, 12, 13], i [2, 3, 4, 5, 6, 9, 10, 12, 13], i [3, 4, 6, 9, 13], i [10, 11], 0#32, i [12, 13]⟩

theorem conv_rows : rrows = prows.map PRow.conv := by kernel_rfl

def PRow.wf (r : PRow) : Bool :=
  (bif r.form == 8 then r.oc != 0#32 else (r.oc &&& 127#32 == r.oc) && (r.f3 &&& 7#32 == r.f3) && (bif r.form == 12 || r.form == 13 then (r.f7 &&& 31#32 == r.f7) else (r.f7 &&& 127#32 == r.f7))) &&
    (r.form == 0 || r.form == 1 || r.form == 2 || r.form == 3 || r.form == 4 || r.form == 5 || r.form == 6 || r.form == 7 || r.form == 8 || r.form == 9 || r.form == 10 || r.form == 11 || r.form == 12 || r.form == 13)
theorem wf_rows : prows.all PRow.wf = true := by kernel_rfl

theorem fits_conv (r : PRow) (h : r.wf = true) (w : BitVec 32) : r.fits w = r.conv.fits w ∧ r.dec w = r.conv.dec w := by
  obtain ⟨op, name, form, oc, f3, f7, kind⟩ := r
  unfold PRow.wf at h
  rw [Bool.and_eq_true] at h
  obtain ⟨h, hf⟩ := h
  simp only [Bool.or_eq_true, beq_iff_eq] at hf
  rcases hf with ((((((((((((hf | hf) | hf) | hf) | hf) | hf) | hf) | hf) | hf) | hf) | hf) | hf) | hf) | hf <;> subst hf
  · replace h : ((oc &&& 127#32 == oc) && (f3 &&& 7#32 == f3) && (f7 &&& 127#32 == f7)) = true := h
    simp only [Bool.and_eq_true, beq_iff_eq] at h
    exact ⟨fits0 op name kind oc f3 f7 w h.1.1, dec0 op name kind oc f3 f7 w⟩
  · replace h : ((oc &&& 127#32 == oc) && (f3 &&& 7#32 == f3) && (f7 &&& 127#32 == f7)) = true := h
    simp only [Bool.and_eq_true, beq_iff_eq] at h
    exact ⟨fits1 op name kind oc f3 f7 w h.1.1, dec1 op name kind oc f3 f7 w⟩
  · replace h : ((oc &&& 127#32 == oc) && (f3 &&& 7#32 == f3) && (f7 &&& 127#32 == f7)) = true := h
    simp only [Bool.and_eq_true, beq_iff_eq] at h
    exact ⟨fits2 op name kind oc f3 f7 w h.1.1 h.1.2, dec2 op name kind oc f3 f7 w⟩
  · replace h : ((oc &&& 127#32 == oc) && (f3 &&& 7#32 == f3) && (f7 &&& 127#32 == f7)) = true := h
    simp only [Bool.and_eq_true, beq_iff_eq] at h
    exact ⟨fits3 op name kind oc f3 f7 w h.1.1 h.1.2, dec3 op name kind oc f3 f7 w⟩
  · replace h : ((oc &&& 127#32 == oc) && (f3 &&& 7#32 == f3) && (f7 &&& 127#32 == f7)) = true := h
    simp only [Bool.and_eq_true, beq_iff_eq] at h
    exact ⟨fits4 op name kind oc f3 f7 w h.1.1 h.1.2, dec4 op name kind oc f3 f7 w⟩
  · replace h : ((oc &&& 127#32 == oc) && (f3 &&& 7#32 == f3) && (f7 &&& 127#32 == f7)) = true := h
    simp only [Bool.and_eq_true, beq_iff_eq] at h
    exact ⟨fits5 op name kind oc f3 f7 w h.1.1 h.1.2 h.2, dec5 op name kind oc f3 f7 w⟩
  · replace h : ((oc &&& 127#32 == oc) && (f3 &&& 7#32 == f3) && (f7 &&& 127#32 == f7)) = true := h
    simp only [Bool.and_eq_true, beq_iff_eq] at h
    exact ⟨fits6 op name kind oc f3 f7 w h.1.1 h.1.2 h.2, dec6 op name kind oc f3 f7 w⟩
  · replace h : ((oc &&& 127#32 == oc) && (f3 &&& 7#32 == f3) && (f7 &&& 127#32 == f7)) = true := h
    simp only [Bool.and_eq_true, beq_iff_eq] at h
    exact ⟨fits7 op name kind oc f3 f7 w h.1.1 h.1.2, dec7 op name kind oc f3 f7 w⟩
  · have hn : (oc != 0#32) = true := h
    constructor
    · have e : (PRow.mk op name 8 oc f3 f7 kind).conv.fits w = (bif oc != 0#32 then w == oc else (RRow.word (PRow.mk op name 8 oc f3 f7 kind).conv ((PRow.mk op name 8 oc f3 f7 kind).conv.inst w)) == w) := by kernel_rfl
      rw [e, hn, cond_true]; rfl
    · have e : (PRow.mk op name 8 oc f3 f7 kind).conv.dec w = (bif oc != 0#32 then (op, 0, 0, 0, 0, 0#32, false, false) else (PRow.mk op name 8 oc f3 f7 kind).conv.inst w) := by kernel_rfl
      rw [e, hn, cond_true]; rfl
  · replace h : ((oc &&& 127#32 == oc) && (f3 &&& 7#32 == f3) && (f7 &&& 127#32 == f7)) = true := h
    simp only [Bool.and_eq_true, beq_iff_eq] at h
    exact ⟨fits9 op name kind oc f3 f7 w h.1.1 h.1.2 h.2, dec9 op name kind oc f3 f7 w⟩
  · replace h : ((oc &&& 127#32 == oc) && (f3 &&& 7#32 == f3) && (f7 &&& 127#32 == f7)) = true := h
    simp only [Bool.and_eq_true, beq_iff_eq] at h
    exact ⟨fits10 op name kind oc f3 f7 w h.1.1 h.1.2, dec10 op name kind oc f3 f7 w⟩
  · replace h : ((oc &&& 127#32 == oc) && (f3 &&& 7#32 == f3) && (f7 &&& 127#32 == f7)) = true := h
    simp only [Bool.and_eq_true, beq_iff_eq] at h
    exact ⟨fits11 op name kind oc f3 f7 w h.1.1 h.1.2, dec11 op name kind oc f3 f7 w⟩
  · replace h : ((oc &&& 127#32 == oc) && (f3 &&& 7#32 == f3) && (f7 &&& 31#32 == f7)) = true := h
    simp only [Bool.and_eq_true, beq_iff_eq] at h
    exact ⟨fits12 op name kind oc f3 f7 w h.1.1 h.1.2 h.2, dec12 op name kind oc f3 f7 w⟩
  · replace h : ((oc &&& 127#32 == oc) && (f3 &&& 7#32 == f3) && (f7 &&& 31#32 == f7)) = true := h
    simp only [Bool.and_eq_true, beq_iff_eq] at h
    exact ⟨fits13 op name kind oc f3 f7 w h.1.1 h.1.2 h.2, dec13 op name kind oc f3 f7 w⟩

theorem decP_decR (w : BitVec 32) : ∀ (l : List PRow), l.all PRow.wf = true → decP w l = decR w (l.map PRow.conv)
  | [], _ => rfl
  | r :: l, h => by
    rw [List.all_cons, Bool.and_eq_true] at h
    obtain ⟨e1, e2⟩ := fits_conv r h.1 w
    rw [List.map_cons]
    unfold decP decR
    rw [decP_decR w l h.2, e1, e2]

/-- Any word's instruction is what the document's table says. -/
theorem decode_same (w : BitVec 32) : isa_Decode.v w = corralref1_Decode.v w := by
  unfold isa_Decode.v corralref1_Decode.v
  rw [decP_decR w prows wf_rows, conv_rows]
end Go.Ev
