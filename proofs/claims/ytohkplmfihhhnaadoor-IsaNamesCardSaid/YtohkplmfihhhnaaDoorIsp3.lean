/-
  Instructions, the plain law: words and errors of instructions are those of the document's table; IsaSays answers true.
  Conditions: none.
-/
import Derived.Test.YtohkplmfihhhnaaDoorIsp2
set_option linter.unusedVariables false
set_option linter.unusedSimpArgs false
namespace Go.Ev
open Go

/-! ### Laying immediates -/
theorem layI_p (x : BitVec 32) : enc_Lay.v 73#8 x = corralref1_lay.v 73#8 x := by
  have e : enc_Lay.v 73#8 x = (bif enc_Imm.v 73#8 (layF x (pieces 73#8).1 0#32) != x then (0#32, false) else (layF x (pieces 73#8).1 0#32, true)) := by
    unfold enc_Lay.v
    rw [condF (show (pieces 73#8).1.isEmpty = false from rfl)]
  have e2 : layF x (pieces 73#8).1 0#32 = (pwI (.v 0)).eval fun _ => x := wire (fun _ => x) (.or (.c 0#32) (.shl (.and (.shr (.v 0) 0) 4095#32) 20)) (pwI (.v 0)) (by kernel_rfl)
  rw [e, e2, immI_pr, layI_r]
theorem layS_p (x : BitVec 32) : enc_Lay.v 83#8 x = corralref1_lay.v 83#8 x := by
  have e : enc_Lay.v 83#8 x = (bif enc_Imm.v 83#8 (layF x (pieces 83#8).1 0#32) != x then (0#32, false) else (layF x (pieces 83#8).1 0#32, true)) := by
    unfold enc_Lay.v
    rw [condF (show (pieces 83#8).1.isEmpty = false from rfl)]
  have e2 : layF x (pieces 83#8).1 0#32 = (pwS (.v 0)).eval fun _ => x := wire (fun _ => x) (.or (.or (.c 0#32) (.shl (.and (.shr (.v 0) 5) 127#32) 25)) (.shl (.and (.shr (.v 0) 0) 31#32) 7)) (pwS (.v 0)) (by kernel_rfl)
  rw [e, e2, immS_pr, layS_r]
theorem layB_p (x : BitVec 32) : enc_Lay.v 66#8 x = corralref1_lay.v 66#8 x := by
  have e : enc_Lay.v 66#8 x = (bif enc_Imm.v 66#8 (layF x (pieces 66#8).1 0#32) != x then (0#32, false) else (layF x (pieces 66#8).1 0#32, true)) := by
    unfold enc_Lay.v
    rw [condF (show (pieces 66#8).1.isEmpty = false from rfl)]
  have e2 : layF x (pieces 66#8).1 0#32 = (pwB (.v 0)).eval fun _ => x := wire (fun _ => x) (.or (.or (.or (.or (.c 0#32) (.shl (.and (.shr (.v 0) 12) 1#32) 31)) (.shl (.and (.shr (.v 0) 11) 1#32) 7)) (.shl (.and (.shr (.v 0) 5) 63#32) 25)) (.shl (.and (.shr (.v 0) 1) 15#32) 8)) (pwB (.v 0)) (by kernel_rfl)
  rw [e, e2, immB_pr, layB_r]
theorem layU_p (x : BitVec 32) : enc_Lay.v 85#8 x = corralref1_lay.v 85#8 x := by
  have e : enc_Lay.v 85#8 x = (bif enc_Imm.v 85#8 (layF x (pieces 85#8).1 0#32) != x then (0#32, false) else (layF x (pieces 85#8).1 0#32, true)) := by
    unfold enc_Lay.v
    rw [condF (show (pieces 85#8).1.isEmpty = false from rfl)]
  have e2 : layF x (pieces 85#8).1 0#32 = (pwU (.v 0)).eval fun _ => x := wire (fun _ => x) (.or (.c 0#32) (.shl (.and (.shr (.v 0) 12) 1048575#32) 12)) (pwU (.v 0)) (by kernel_rfl)
  rw [e, e2, immU_pr, layU_r]
theorem layJ_p (x : BitVec 32) : enc_Lay.v 74#8 x = corralref1_lay.v 74#8 x := by
  have e : enc_Lay.v 74#8 x = (bif enc_Imm.v 74#8 (layF x (pieces 74#8).1 0#32) != x then (0#32, false) else (layF x (pieces 74#8).1 0#32, true)) := by
    unfold enc_Lay.v
    rw [condF (show (pieces 74#8).1.isEmpty = false from rfl)]
  have e2 : layF x (pieces 74#8).1 0#32 = (pwJ (.v 0)).eval fun _ => x := wire (fun _ => x) (.or (.or (.or (.or (.c 0#32) (.shl (.and (.shr (.v 0) 20) 1#32) 31)) (.shl (.and (.shr (.v 0) 12) 255#32) 12)) (.shl (.and (.shr (.v 0) 11) 1#32) 20)) (.shl (.and (.shr (.v 0) 1) 1023#32) 21)) (pwJ (.v 0)) (by kernel_rfl)
  rw [e, e2, immJ_pr, layJ_r]

/-! ### Two answers that are the same -/
def Rel (P : BitVec 32 × Option (_root_.Fin 11)) (R : BitVec 32 × Int) : Prop := P.1 = R.1 ∧ corralsee_Is.v P.2 R.2 = true

theorem rel_bif {x : Bool} {a c : BitVec 32 × Option (_root_.Fin 11)} {b d : BitVec 32 × Int} (h : x = true → Rel a b) (h' : x = false → Rel c d) : Rel (bif x then a else c) (bif x then b else d) := by
  cases x
  · exact h' rfl
  · exact h rfl

theorem step_eq {α : Type} {x y : Bool} {E T : α} : (bif x then (bif y then E else T) else T) = bif x && y then E else T := by cases x <;> rfl
theorem chain_or {α : Type} {x y : Bool} {E T : α} : (bif x then E else bif y then E else T) = bif x || y then E else T := by cases x <;> rfl

theorem step_or {α : Type} {x y z : Bool} {E T : α} : (bif x then (bif y then E else bif z then E else T) else T) = bif x && (y || z) then E else T := by cases x <;> cases y <;> rfl
theorem reg_eq (n : Int) : corralref1_reg.v n = (!decide (n < 0) && !decide (n > 31)) := by
  unfold corralref1_reg.v
  by_cases h : n < 0 <;> by_cases h2 : n > 31 <;> simp [h, h2] <;> omega
theorem encL_reg {n : Int} {α : Type} {E T : α} : (bif decide (n < 0) then E else bif decide (n > 31) then E else T) = bif !corralref1_reg.v n then E else T := by
  rw [reg_eq]; cases decide (n < 0) <;> cases decide (n > 31) <;> rfl

theorem reg_mask {n : Int} (h : corralref1_reg.v n = true) : BitVec.ofInt 32 n &&& 31#32 = BitVec.ofInt 32 n := by
  rw [reg_eq] at h
  simp at h
  apply BitVec.eq_of_toNat_eq
  rw [BitVec.toNat_and]
  have e : (BitVec.ofInt 32 n).toNat = n.toNat := by
    rw [BitVec.toNat_ofInt]; have : n % ((2 ^ 32 : Nat) : Int) = n := Int.emod_eq_of_lt (by omega) (by omega)
    rw [this]
  rw [e]
  show n.toNat &&& 31 = n.toNat
  rw [show (31 : Nat) = 2 ^ 5 - 1 by rfl, Nat.and_two_pow_sub_one_eq_mod]
  exact Nat.mod_eq_of_lt (by omega)

theorem v20_eq (d a b im : Bool) (w : BitVec 32) (c pr : Bool) (i0 i1 i2 i3 i4 : Int) (i5 : BitVec 32) (i6 i7 : Bool) (r0 : Int) (r1 : ByteArray) (r2 : Int) (r3 r4 r5 : BitVec 32) (r6 : Int) :
    isa_Encode.v20 d a b im w c pr i0 i1 i2 i3 i4 i5 i6 i7 r0 r1 r2 r3 r4 r5 r6 =
      bif ((!d && i1 != 0) || ((!a && i2 != 0) || ((!b && i3 != 0) || ((!im && i5 != 0#32) || ((!c && i4 != 0) || (!pr && (i6 || i7))))))) then (0#32, some 3) else isa_Encode.v22 w pr i0 i1 i2 i3 i4 i5 i6 i7 r0 r1 r2 r3 r4 r5 r6 := by
  unfold isa_Encode.v20 isa_Encode.v21
  simp only [cond_true, cond_false, step_or, step_eq]
  simp only [chain_or]

theorem v7_eq (i0 i1 i2 i3 i4 : Int) (i5 : BitVec 32) (i6 i7 : Bool) (r : RRow) :
    corralref1_Encode.v7 i0 i1 i2 i3 i4 i5 i6 i7 r.op r.name r.oc r.f3 r.f7 r.hasF3 r.hasF7 r.format r.rd r.rs1 r.rs2 r.csr r.whole r.pair =
      bif ((!r.rd && i1 != 0) || ((!r.rs1 && i2 != 0) || ((!r.rs2 && i3 != 0) || ((!r.csr && i4 != 0) || ((r.format == 0#8 && i5 != 0#32) || (!r.pair && (i6 || i7))))))) then (0#32, 104) else
        (r.word (i0, i1, i2, i3, i4, i5, i6, i7), 0) := by
  unfold corralref1_Encode.v7 corralref1_Encode.v8 corralref1_Encode.v9
  simp only [cond_true, cond_false, step_or, step_eq]
  simp only [chain_or]
  rfl

/-- The rest of the document's Encode, of a row. -/
def rTail (r : RRow) (i0 i1 i2 i3 i4 : Int) (i5 : BitVec 32) (i6 i7 : Bool) : BitVec 32 × Int :=
  bif !corralref1_reg.v i1 then (0#32, 106) else bif !corralref1_reg.v i2 then (0#32, 106) else bif !corralref1_reg.v i3 then (0#32, 106) else
  bif decide (i4 < 0) then (0#32, 106) else bif decide (i4 > 4095) then (0#32, 106) else
  bif (bif r.format != 0#8 then !(corralref1_lay.v r.format i5).2 else false) then (0#32, 106) else
    corralref1_Encode.v7 i0 i1 i2 i3 i4 i5 i6 i7 r.op r.name r.oc r.f3 r.f7 r.hasF3 r.hasF7 r.format r.rd r.rs1 r.rs2 r.csr r.whole r.pair

theorem encode_r (i0 i1 i2 i3 i4 : Int) (i5 : BitVec 32) (i6 i7 : Bool) : corralref1_Encode.v i0 i1 i2 i3 i4 i5 i6 i7 = bif !(ofR i0).2 then (0#32, 102) else rTail (ofR i0).1 i0 i1 i2 i3 i4 i5 i6 i7 := by
  have e : corralref1_Of.v i0 = ((ofR i0).1.op, (ofR i0).1.name, (ofR i0).1.oc, (ofR i0).1.f3, (ofR i0).1.f7, (ofR i0).1.hasF3, (ofR i0).1.hasF7, (ofR i0).1.format, (ofR i0).1.rd, (ofR i0).1.rs1, (ofR i0).1.rs2, (ofR i0).1.csr, (ofR i0).1.whole, (ofR i0).1.pair, (ofR i0).2) := rfl
  unfold corralref1_Encode.v
  rw [e]
  generalize ofR i0 = o
  obtain ⟨r, ok⟩ := o
  dsimp only
  unfold rTail corralref1_Encode.v6
  cases ok
  · rfl
  cases corralref1_reg.v i1
  · rfl
  cases corralref1_reg.v i2
  · rfl
  cases corralref1_reg.v i3
  · rfl
  cases decide (i4 < 0)
  · cases decide (i4 > 4095)
    · cases r.format != 0#8 <;> rfl
    · rfl
  · rfl

theorem or_zero (x : BitVec 32) : 0#32 ||| x = x := by simp
theorem or_zero' (x : BitVec 32) : x ||| 0#32 = x := by simp

theorem join_eq (h0 h1 h2 h3 h4 h5 : BitVec 32) : enc_Join.v h0 h1 h2 h3 h4 h5 = ((((((0#32 ||| (h0 &&& 127#32) <<< 0) ||| (h1 &&& 31#32) <<< 7) ||| (h2 &&& 7#32) <<< 12) ||| (h3 &&& 31#32) <<< 15) ||| (h4 &&& 31#32) <<< 20) ||| (h5 &&& 127#32) <<< 25) := by kernel_rfl

theorem or_perm (w c o d f a b g : BitVec 32) : ((w ||| c) ||| (((((o ||| d) ||| f) ||| a) ||| b) ||| g)) = ((((((o ||| f) ||| g) ||| w) ||| d) ||| a) ||| b) ||| c := by
  refine BitVec.eq_of_getLsbD_eq fun i hi => ?_
  simp only [BitVec.getLsbD_or]
  cases w.getLsbD i <;> cases c.getLsbD i <;> cases o.getLsbD i <;> cases d.getLsbD i <;> cases f.getLsbD i <;> cases a.getLsbD i <;> cases b.getLsbD i <;> cases g.getLsbD i <;> rfl

/-- The word of an instruction whose row has no pair's bits. -/
theorem word_plain (op : Int) (name : ByteArray) (oc f3 f7 : BitVec 32) (b3 b7 : Bool) (fm : BitVec 8) (rd rs1 rs2 csr : Bool) (i0 i1 i2 i3 i4 : Int) (i5 : BitVec 32) (i6 i7 : Bool) (w : BitVec 32)
    (hw : w = (corralref1_lay.v fm i5).1) (hoc : oc &&& 127#32 = oc) (h3 : f3 &&& 7#32 = f3) (h7 : f7 &&& 127#32 = f7) (r1 : corralref1_reg.v i1 = true) (r2 : corralref1_reg.v i2 = true) (r3 : corralref1_reg.v i3 = true) :
    ((w ||| BitVec.ofInt 32 i4 <<< 20) ||| enc_Join.v oc (BitVec.ofInt 32 i1) f3 (BitVec.ofInt 32 i2) (BitVec.ofInt 32 i3) f7) = (RRow.mk op name oc f3 f7 b3 b7 fm rd rs1 rs2 csr 0#32 false).word (i0, i1, i2, i3, i4, i5, i6, i7) := by
  have e : (RRow.mk op name oc f3 f7 b3 b7 fm rd rs1 rs2 csr 0#32 false).word (i0, i1, i2, i3, i4, i5, i6, i7) = ((((((oc ||| f3 <<< 12) ||| f7 <<< 25) ||| (corralref1_lay.v fm i5).1) ||| BitVec.ofInt 32 i1 <<< 7) ||| BitVec.ofInt 32 i2 <<< 15) ||| BitVec.ofInt 32 i3 <<< 20) ||| BitVec.ofInt 32 i4 <<< 20 := by kernel_rfl
  rw [e, ← hw, join_eq, hoc, h3, h7, reg_mask r1, reg_mask r2, reg_mask r3, or_zero, BitVec.shiftLeft_zero, or_perm]

theorem pairW (f7 : BitVec 32) (h7 : f7 &&& 31#32 = f7) (x y : Bool) :
    ((bif y then (bif x then f7 <<< 2 ||| 2#32 else f7 <<< 2) ||| 1#32 else (bif x then f7 <<< 2 ||| 2#32 else f7 <<< 2)) &&& 127#32) <<< 25 = ((f7 <<< 27 ||| (bif x then 67108864#32 else 0#32)) ||| (bif y then 33554432#32 else 0#32)) := by
  have key : ∀ c d : BitVec 32, eqBits (.shl (.and (.or (.shl (.and (.v 0) 31#32) 2) (.c c)) 127#32) 25) (.or (.shl (.and (.v 0) 31#32) 27) (.c d)) 32 = some [] → ((f7 <<< 2 ||| c) &&& 127#32) <<< 25 = f7 <<< 27 ||| d := fun c d h => by
    have := wire (fun _ => f7) _ _ h
    simp only [WE.eval, h7] at this
    exact this
  cases x <;> cases y <;> simp only [cond_true, cond_false]
  · have := key 0#32 0#32 (by kernel_rfl); rw [or_zero', or_zero'] at this; rw [this, or_zero', or_zero']
  · have := key 1#32 33554432#32 (by kernel_rfl); rw [this, or_zero']
  · have := key 2#32 67108864#32 (by kernel_rfl); rw [this, or_zero']
  · have := key 3#32 100663296#32 (by kernel_rfl)
    rw [BitVec.or_assoc, show (2#32 ||| 1#32) = 3#32 by decide, this, BitVec.or_assoc, show (67108864#32 ||| 33554432#32) = 100663296#32 by decide]

theorem or_perm2 (c o d f a b g x y : BitVec 32) : (c ||| (((((o ||| d) ||| f) ||| a) ||| b) ||| ((g ||| x) ||| y))) = (((((((o ||| f) ||| g) ||| x) ||| y) ||| d) ||| a) ||| b) ||| c := by
  refine BitVec.eq_of_getLsbD_eq fun i hi => ?_
  simp only [BitVec.getLsbD_or]
  cases x.getLsbD i <;> cases y.getLsbD i <;> cases c.getLsbD i <;> cases o.getLsbD i <;> cases d.getLsbD i <;> cases f.getLsbD i <;> cases a.getLsbD i <;> cases b.getLsbD i <;> cases g.getLsbD i <;> rfl

theorem word_pair (op : Int) (name : ByteArray) (oc f3 f7 : BitVec 32) (b3 b7 : Bool) (rd rs1 rs2 csr : Bool) (i0 i1 i2 i3 i4 : Int) (i5 : BitVec 32) (i6 i7 : Bool)
    (hoc : oc &&& 127#32 = oc) (h3 : f3 &&& 7#32 = f3) (h7 : f7 &&& 31#32 = f7) (r1 : corralref1_reg.v i1 = true) (r2 : corralref1_reg.v i2 = true) (r3 : corralref1_reg.v i3 = true) :
    ((0#32 ||| BitVec.ofInt 32 i4 <<< 20) ||| enc_Join.v oc (BitVec.ofInt 32 i1) f3 (BitVec.ofInt 32 i2) (BitVec.ofInt 32 i3) (bif i7 then (bif i6 then f7 <<< 2 ||| 2#32 else f7 <<< 2) ||| 1#32 else (bif i6 then f7 <<< 2 ||| 2#32 else f7 <<< 2)))
      = (RRow.mk op name oc f3 f7 b3 b7 0#8 rd rs1 rs2 csr 0#32 true).word (i0, i1, i2, i3, i4, i5, i6, i7) := by
  have e : (RRow.mk op name oc f3 f7 b3 b7 0#8 rd rs1 rs2 csr 0#32 true).word (i0, i1, i2, i3, i4, i5, i6, i7) = (((((((oc ||| f3 <<< 12) ||| f7 <<< 27) ||| (bif i6 then 67108864#32 else 0#32)) ||| (bif i7 then 33554432#32 else 0#32)) ||| BitVec.ofInt 32 i1 <<< 7) ||| BitVec.ofInt 32 i2 <<< 15) ||| BitVec.ofInt 32 i3 <<< 20) ||| BitVec.ofInt 32 i4 <<< 20 := by
    unfold RRow.word corralref1_word.v corralref1_word.v8 corralref1_word.v11
    have l : (corralref1_lay.v 0#8 i5).1 = 0#32 := by kernel_rfl
    cases i6 <;> cases i7 <;> simp [l]
  rw [e, join_eq, pairW f7 h7, hoc, h3, reg_mask r1, reg_mask r2, reg_mask r3, or_zero, or_zero, BitVec.shiftLeft_zero, or_perm2]
end Go.Ev
