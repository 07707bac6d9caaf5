/-
  Instructions, the plain law: the two tables decode alike.
  Conditions: none.
-/
import Derived.Test.YtohkplmfihhhnaaDoorV5
import Derived.Test.YtohkplmfihhhnaaDoorWr
set_option linter.unusedVariables false
set_option linter.unusedSimpArgs false
namespace Go.Ev
open Go

/-! ### Signs -/
theorem sx_shift (x : BitVec 32) (n : Nat) (h0 : 0 < n) (h : n < 32) : (x <<< (32 - n)).sshiftRight (32 - n) = sx x n := by
  refine BitVec.eq_of_getLsbD_eq fun i hi => ?_
  unfold sx
  rw [BitVec.getLsbD_sshiftRight, BitVec.getLsbD_signExtend, BitVec.getLsbD_shiftLeft]
  by_cases hin : i < n
  · have h1 : 32 - n + i < 32 := by omega
    have h2 : ¬ (32 ≤ i) := by omega
    have h3 : ¬ (32 - n + i < 32 - n) := by omega
    have h4 : 32 - n + i - (32 - n) = i := by omega
    simp only [hi, hin, h1, h2, h3, h4, BitVec.getLsbD_setWidth, if_true, decide_true, decide_false, Bool.not_false, Bool.true_and]
  · have h1 : ¬ (32 - n + i < 32) := by omega
    have h2 : ¬ (32 ≤ i) := by omega
    simp only [h1, if_false, hin, hi, decide_true, Bool.true_and, h2, decide_false, Bool.not_false]
    rw [BitVec.msb_eq_getLsbD_last, BitVec.msb_eq_getLsbD_last, BitVec.getLsbD_shiftLeft, BitVec.getLsbD_setWidth]
    have h3 : 32 - 1 - (32 - n) = n - 1 := by omega
    have h4 : ¬ (32 - 1 < 32 - n) := by omega
    have h5 : n - 1 < n := by omega
    have h6 : (31 < 32 - n) = False := by simp; omega
    rw [h3]; simp [h5, h6]

theorem sar (y : BitVec 32) (k : Nat) (hk : k ≤ 32) : BitVec.ofInt 32 (shrI .i32 y.toInt (k : Int)) = y.sshiftRight k := by
  show BitVec.ofInt 32 (y.toInt.fdiv (2 ^ min (k : Int).toNat 32)) = BitVec.ofInt 32 (y.toInt >>> k)
  rw [Int.toNat_natCast, Nat.min_eq_left hk, Int.shiftRight_eq_div_pow, Int.fdiv_eq_ediv_of_nonneg _ (Int.le_of_lt (Int.pow_pos (by decide)))]
  norm_cast

theorem psign (x : BitVec 32) (n : Nat) (h0 : 0 < n) (h : n < 32) : word_Sign.v x (n : Int) = sx x n := by
  unfold word_Sign.v
  have e1 : decide ((n : Int) < 1) = false := by simp; omega
  have e2 : decide ((n : Int) ≥ 32) = false := by simp; omega
  have e3 : IntKind.wrap .i64 (32 - (n : Int)) = ((32 - n : Nat) : Int) := by rw [wrap_id (by omega) (by omega)]; omega
  rw [e1, e2, e3, cond_false, cond_false, Int.toNat_natCast, sar _ _ (by omega), sx_shift x n h0 h]

theorem rsign0 (x : BitVec 32) (n : Nat) (hn : 0 < n) (h32 : n < 32) (m : BitVec 32) (hm : ∀ i, m.getLsbD i = decide (i < n)) :
    (bif ((x &&& m) >>> (n - 1)) == 1#32 then (x &&& m) ||| ~~~m else x &&& m) = sx x n := by
  have h1 : (((x &&& m) >>> (n - 1)) == 1#32) = x.getLsbD (n - 1) := by
    rw [Bool.eq_iff_iff, beq_iff_eq]
    constructor
    · intro h
      have := congrArg (fun y => y.getLsbD 0) h
      simp only [BitVec.getLsbD_ushiftRight, BitVec.getLsbD_and, Nat.add_zero] at this
      have h2 : (1#32).getLsbD 0 = true := by decide
      rw [h2] at this
      simp at this; exact this.1
    · intro h
      refine BitVec.eq_of_getLsbD_eq fun i hi => ?_
      rw [BitVec.getLsbD_ushiftRight, BitVec.getLsbD_and, hm]
      rcases Nat.eq_zero_or_pos i with h0 | h0
      · subst h0; simp [h]; omega
      · have h3 : (1#32).getLsbD i = false := by
          rw [BitVec.getLsbD_one]; simp; omega
        rw [h3]; simp; omega
  rw [h1]
  refine BitVec.eq_of_getLsbD_eq fun i hi => ?_
  unfold sx
  rw [BitVec.getLsbD_signExtend]
  cases hb : x.getLsbD (n - 1)
  · rw [cond_false, BitVec.getLsbD_and, hm]
    by_cases hin : i < n
    · simp [hin, hi, BitVec.getLsbD_setWidth]
    · simp only [hin, decide_false, Bool.and_false, if_false, hi, decide_true, Bool.true_and]
      rw [BitVec.msb_eq_getLsbD_last, BitVec.getLsbD_setWidth, hb]; simp
  · rw [cond_true, BitVec.getLsbD_or, BitVec.getLsbD_and, BitVec.getLsbD_not, hm]
    by_cases hin : i < n
    · simp [hin, hi, BitVec.getLsbD_setWidth]
    · simp only [hin, decide_false, Bool.and_false, if_false, hi, decide_true, Bool.true_and, Bool.not_false, Bool.false_or]
      rw [BitVec.msb_eq_getLsbD_last, BitVec.getLsbD_setWidth, hb]; simp; omega

theorem maskbit (m : BitVec 32) (n : Nat) (hn : n ≤ 32) (h : ∀ i : _root_.Fin 32, m.getLsbD i.val = decide (i.val < n)) (i : Nat) : m.getLsbD i = decide (i < n) := by
  by_cases hi : i < 32
  · exact h ⟨i, hi⟩
  · rw [BitVec.getLsbD_of_ge _ _ (by omega)]; simp; omega
theorem rsign12 (x : BitVec 32) : corralref1_Sign.v x 12 = sx x 12 := rsign0 x 12 (by decide) (by decide) 4095#32 (maskbit 4095#32 12 (by decide) (by decide))
theorem rsign13 (x : BitVec 32) : corralref1_Sign.v x 13 = sx x 13 := rsign0 x 13 (by decide) (by decide) 8191#32 (maskbit 8191#32 13 (by decide) (by decide))
theorem rsign21 (x : BitVec 32) : corralref1_Sign.v x 21 = sx x 21 := rsign0 x 21 (by decide) (by decide) 2097151#32 (maskbit 2097151#32 21 (by decide) (by decide))

/-! ### Immediates -/
def imI (x : WE) : WE := (.sx (.and (.shr x 20) 4095#32) 12)
def pwI (x : WE) : WE := (.shl (.and (.shr x 0) 4095#32) 20)
def pmI (x : WE) : WE := (.sx (.or (.c 0#32) (.shl (.and (.shr x 20) 4095#32) 0)) 12)
theorem immI_p (w : BitVec 32) : enc_Imm.v 73#8 w = (pmI (.v 0)).eval fun _ => w := by
  have e : enc_Imm.v 73#8 w = word_Sign.v ((((.or (.c 0#32) (.shl (.and (.shr (.v 0) 20) 4095#32) 0)) : WE)).eval fun _ => w) ((12 : Nat) : Int) := by kernel_rfl
  rw [e, psign _ _ (by decide) (by decide)]; rfl
theorem immI_r (w : BitVec 32) : corralref1_Imm.v 73#8 w = (imI (.v 0)).eval fun _ => w := by
  have e : corralref1_Imm.v 73#8 w = corralref1_Sign.v ((((.and (.shr (.v 0) 20) 4095#32) : WE)).eval fun _ => w) 12 := by kernel_rfl
  rw [e, rsign12]; rfl
theorem immI_pr (w : BitVec 32) : enc_Imm.v 73#8 w = corralref1_Imm.v 73#8 w := by
  rw [immI_p, immI_r]; exact wire _ _ _ (by kernel_rfl)
theorem layI_r (x : BitVec 32) : corralref1_lay.v 73#8 x = (bif corralref1_Imm.v 73#8 ((pwI (.v 0)).eval fun _ => x) != x then (0#32, false) else ((pwI (.v 0)).eval fun _ => x, true)) := by kernel_rfl
theorem layimmI (w : BitVec 32) : corralref1_lay.v 73#8 (corralref1_imm.v 73#8 w) = ((pwI (imI (.v 0))).eval fun _ => w, true) := by
  have e0 : corralref1_imm.v 73#8 w = (imI (.v 0)).eval fun _ => w := immI_r w
  rw [e0, layI_r, immI_r]
  have e : (imI (.v 0)).eval (fun _ => (pwI (.v 0)).eval fun _ => (imI (.v 0)).eval fun _ => w) = (imI (.v 0)).eval fun _ => w := by
    have e1 : (imI (.v 0)).eval (fun _ => (pwI (.v 0)).eval fun _ => (imI (.v 0)).eval fun _ => w) = (imI (pwI (imI (.v 0)))).eval fun _ => w := by kernel_rfl
    rw [e1]; exact wire (fun _ => w) (imI (pwI (imI (.v 0)))) (imI (.v 0)) (by kernel_rfl)
  rw [e]
  have e2 : ((imI (.v 0)).eval (fun _ => w) != (imI (.v 0)).eval fun _ => w) = false := by simp
  rw [e2]; rfl
def imS (x : WE) : WE := (.sx (.or (.shl (.and (.shr x 25) 127#32) 5) (.and (.shr x 7) 31#32)) 12)
def pwS (x : WE) : WE := (.or (.shl (.and (.shr (.shr x 5) 0) 127#32) 25) (.shl (.and (.shr x 0) 31#32) 7))
def pmS (x : WE) : WE := (.sx (.or (.or (.c 0#32) (.shl (.and (.shr x 25) 127#32) 5)) (.shl (.and (.shr x 7) 31#32) 0)) 12)
theorem immS_p (w : BitVec 32) : enc_Imm.v 83#8 w = (pmS (.v 0)).eval fun _ => w := by
  have e : enc_Imm.v 83#8 w = word_Sign.v ((((.or (.or (.c 0#32) (.shl (.and (.shr (.v 0) 25) 127#32) 5)) (.shl (.and (.shr (.v 0) 7) 31#32) 0)) : WE)).eval fun _ => w) ((12 : Nat) : Int) := by kernel_rfl
  rw [e, psign _ _ (by decide) (by decide)]; rfl
theorem immS_r (w : BitVec 32) : corralref1_Imm.v 83#8 w = (imS (.v 0)).eval fun _ => w := by
  have e : corralref1_Imm.v 83#8 w = corralref1_Sign.v ((((.or (.shl (.and (.shr (.v 0) 25) 127#32) 5) (.and (.shr (.v 0) 7) 31#32)) : WE)).eval fun _ => w) 12 := by kernel_rfl
  rw [e, rsign12]; rfl
theorem immS_pr (w : BitVec 32) : enc_Imm.v 83#8 w = corralref1_Imm.v 83#8 w := by
  rw [immS_p, immS_r]; exact wire _ _ _ (by kernel_rfl)
theorem layS_r (x : BitVec 32) : corralref1_lay.v 83#8 x = (bif corralref1_Imm.v 83#8 ((pwS (.v 0)).eval fun _ => x) != x then (0#32, false) else ((pwS (.v 0)).eval fun _ => x, true)) := by kernel_rfl
theorem layimmS (w : BitVec 32) : corralref1_lay.v 83#8 (corralref1_imm.v 83#8 w) = ((pwS (imS (.v 0))).eval fun _ => w, true) := by
  have e0 : corralref1_imm.v 83#8 w = (imS (.v 0)).eval fun _ => w := immS_r w
  rw [e0, layS_r, immS_r]
  have e : (imS (.v 0)).eval (fun _ => (pwS (.v 0)).eval fun _ => (imS (.v 0)).eval fun _ => w) = (imS (.v 0)).eval fun _ => w := by
    have e1 : (imS (.v 0)).eval (fun _ => (pwS (.v 0)).eval fun _ => (imS (.v 0)).eval fun _ => w) = (imS (pwS (imS (.v 0)))).eval fun _ => w := by kernel_rfl
    rw [e1]; exact wire (fun _ => w) (imS (pwS (imS (.v 0)))) (imS (.v 0)) (by kernel_rfl)
  rw [e]
  have e2 : ((imS (.v 0)).eval (fun _ => w) != (imS (.v 0)).eval fun _ => w) = false := by simp
  rw [e2]; rfl
def imB (x : WE) : WE := (.sx (.or (.or (.or (.shl (.and (.shr x 31) 1#32) 12) (.shl (.and (.shr x 7) 1#32) 11)) (.shl (.and (.shr x 25) 63#32) 5)) (.shl (.and (.shr x 8) 15#32) 1)) 13)
def pwB (x : WE) : WE := (.or (.or (.or (.shl (.and (.shr (.shr x 12) 0) 1#32) 31) (.shl (.and (.shr (.shr x 11) 0) 1#32) 7)) (.shl (.and (.shr (.shr x 5) 0) 63#32) 25)) (.shl (.and (.shr (.shr x 1) 0) 15#32) 8))
def pmB (x : WE) : WE := (.sx (.or (.or (.or (.or (.c 0#32) (.shl (.and (.shr x 31) 1#32) 12)) (.shl (.and (.shr x 7) 1#32) 11)) (.shl (.and (.shr x 25) 63#32) 5)) (.shl (.and (.shr x 8) 15#32) 1)) 13)
theorem immB_p (w : BitVec 32) : enc_Imm.v 66#8 w = (pmB (.v 0)).eval fun _ => w := by
  have e : enc_Imm.v 66#8 w = word_Sign.v ((((.or (.or (.or (.or (.c 0#32) (.shl (.and (.shr (.v 0) 31) 1#32) 12)) (.shl (.and (.shr (.v 0) 7) 1#32) 11)) (.shl (.and (.shr (.v 0) 25) 63#32) 5)) (.shl (.and (.shr (.v 0) 8) 15#32) 1)) : WE)).eval fun _ => w) ((13 : Nat) : Int) := by kernel_rfl
  rw [e, psign _ _ (by decide) (by decide)]; rfl
theorem immB_r (w : BitVec 32) : corralref1_Imm.v 66#8 w = (imB (.v 0)).eval fun _ => w := by
  have e : corralref1_Imm.v 66#8 w = corralref1_Sign.v ((((.or (.or (.or (.shl (.and (.shr (.v 0) 31) 1#32) 12) (.shl (.and (.shr (.v 0) 7) 1#32) 11)) (.shl (.and (.shr (.v 0) 25) 63#32) 5)) (.shl (.and (.shr (.v 0) 8) 15#32) 1)) : WE)).eval fun _ => w) 13 := by kernel_rfl
  rw [e, rsign13]; rfl
theorem immB_pr (w : BitVec 32) : enc_Imm.v 66#8 w = corralref1_Imm.v 66#8 w := by
  rw [immB_p, immB_r]; exact wire _ _ _ (by kernel_rfl)
theorem layB_r (x : BitVec 32) : corralref1_lay.v 66#8 x = (bif corralref1_Imm.v 66#8 ((pwB (.v 0)).eval fun _ => x) != x then (0#32, false) else ((pwB (.v 0)).eval fun _ => x, true)) := by kernel_rfl
theorem layimmB (w : BitVec 32) : corralref1_lay.v 66#8 (corralref1_imm.v 66#8 w) = ((pwB (imB (.v 0))).eval fun _ => w, true) := by
  have e0 : corralref1_imm.v 66#8 w = (imB (.v 0)).eval fun _ => w := immB_r w
  rw [e0, layB_r, immB_r]
  have e : (imB (.v 0)).eval (fun _ => (pwB (.v 0)).eval fun _ => (imB (.v 0)).eval fun _ => w) = (imB (.v 0)).eval fun _ => w := by
    have e1 : (imB (.v 0)).eval (fun _ => (pwB (.v 0)).eval fun _ => (imB (.v 0)).eval fun _ => w) = (imB (pwB (imB (.v 0)))).eval fun _ => w := by kernel_rfl
    rw [e1]; exact wire (fun _ => w) (imB (pwB (imB (.v 0)))) (imB (.v 0)) (by kernel_rfl)
  rw [e]
  have e2 : ((imB (.v 0)).eval (fun _ => w) != (imB (.v 0)).eval fun _ => w) = false := by simp
  rw [e2]; rfl
def imU (x : WE) : WE := (.shl (.and (.shr x 12) 1048575#32) 12)
def pwU (x : WE) : WE := (.shl (.and (.shr (.shr x 12) 0) 1048575#32) 12)
def pmU (x : WE) : WE := (.or (.c 0#32) (.shl (.and (.shr x 12) 1048575#32) 12))
theorem immU_p (w : BitVec 32) : enc_Imm.v 85#8 w = (pmU (.v 0)).eval fun _ => w := by kernel_rfl
theorem immU_r (w : BitVec 32) : corralref1_Imm.v 85#8 w = (imU (.v 0)).eval fun _ => w := by kernel_rfl
theorem immU_pr (w : BitVec 32) : enc_Imm.v 85#8 w = corralref1_Imm.v 85#8 w := by
  rw [immU_p, immU_r]; exact wire _ _ _ (by kernel_rfl)
theorem layU_r (x : BitVec 32) : corralref1_lay.v 85#8 x = (bif corralref1_Imm.v 85#8 ((pwU (.v 0)).eval fun _ => x) != x then (0#32, false) else ((pwU (.v 0)).eval fun _ => x, true)) := by kernel_rfl
theorem layimmU (w : BitVec 32) : corralref1_lay.v 85#8 (corralref1_imm.v 85#8 w) = ((pwU (imU (.v 0))).eval fun _ => w, true) := by
  have e0 : corralref1_imm.v 85#8 w = (imU (.v 0)).eval fun _ => w := immU_r w
  rw [e0, layU_r, immU_r]
  have e : (imU (.v 0)).eval (fun _ => (pwU (.v 0)).eval fun _ => (imU (.v 0)).eval fun _ => w) = (imU (.v 0)).eval fun _ => w := by
    have e1 : (imU (.v 0)).eval (fun _ => (pwU (.v 0)).eval fun _ => (imU (.v 0)).eval fun _ => w) = (imU (pwU (imU (.v 0)))).eval fun _ => w := by kernel_rfl
    rw [e1]; exact wire (fun _ => w) (imU (pwU (imU (.v 0)))) (imU (.v 0)) (by kernel_rfl)
  rw [e]
  have e2 : ((imU (.v 0)).eval (fun _ => w) != (imU (.v 0)).eval fun _ => w) = false := by simp
  rw [e2]; rfl
def imJ (x : WE) : WE := (.sx (.or (.or (.or (.shl (.and (.shr x 31) 1#32) 20) (.shl (.and (.shr x 12) 255#32) 12)) (.shl (.and (.shr x 20) 1#32) 11)) (.shl (.and (.shr x 21) 1023#32) 1)) 21)
def pwJ (x : WE) : WE := (.or (.or (.or (.shl (.and (.shr (.shr x 20) 0) 1#32) 31) (.shl (.and (.shr (.shr x 12) 0) 255#32) 12)) (.shl (.and (.shr (.shr x 11) 0) 1#32) 20)) (.shl (.and (.shr (.shr x 1) 0) 1023#32) 21))
def pmJ (x : WE) : WE := (.sx (.or (.or (.or (.or (.c 0#32) (.shl (.and (.shr x 31) 1#32) 20)) (.shl (.and (.shr x 12) 255#32) 12)) (.shl (.and (.shr x 20) 1#32) 11)) (.shl (.and (.shr x 21) 1023#32) 1)) 21)
theorem immJ_p (w : BitVec 32) : enc_Imm.v 74#8 w = (pmJ (.v 0)).eval fun _ => w := by
  have e : enc_Imm.v 74#8 w = word_Sign.v ((((.or (.or (.or (.or (.c 0#32) (.shl (.and (.shr (.v 0) 31) 1#32) 20)) (.shl (.and (.shr (.v 0) 12) 255#32) 12)) (.shl (.and (.shr (.v 0) 20) 1#32) 11)) (.shl (.and (.shr (.v 0) 21) 1023#32) 1)) : WE)).eval fun _ => w) ((21 : Nat) : Int) := by kernel_rfl
  rw [e, psign _ _ (by decide) (by decide)]; rfl
theorem immJ_r (w : BitVec 32) : corralref1_Imm.v 74#8 w = (imJ (.v 0)).eval fun _ => w := by
  have e : corralref1_Imm.v 74#8 w = corralref1_Sign.v ((((.or (.or (.or (.shl (.and (.shr (.v 0) 31) 1#32) 20) (.shl (.and (.shr (.v 0) 12) 255#32) 12)) (.shl (.and (.shr (.v 0) 20) 1#32) 11)) (.shl (.and (.shr (.v 0) 21) 1023#32) 1)) : WE)).eval fun _ => w) 21 := by kernel_rfl
  rw [e, rsign21]; rfl
theorem immJ_pr (w : BitVec 32) : enc_Imm.v 74#8 w = corralref1_Imm.v 74#8 w := by
  rw [immJ_p, immJ_r]; exact wire _ _ _ (by kernel_rfl)
theorem layJ_r (x : BitVec 32) : corralref1_lay.v 74#8 x = (bif corralref1_Imm.v 74#8 ((pwJ (.v 0)).eval fun _ => x) != x then (0#32, false) else ((pwJ (.v 0)).eval fun _ => x, true)) := by kernel_rfl
theorem layimmJ (w : BitVec 32) : corralref1_lay.v 74#8 (corralref1_imm.v 74#8 w) = ((pwJ (imJ (.v 0))).eval fun _ => w, true) := by
  have e0 : corralref1_imm.v 74#8 w = (imJ (.v 0)).eval fun _ => w := immJ_r w
  rw [e0, layJ_r, immJ_r]
  have e : (imJ (.v 0)).eval (fun _ => (pwJ (.v 0)).eval fun _ => (imJ (.v 0)).eval fun _ => w) = (imJ (.v 0)).eval fun _ => w := by
    have e1 : (imJ (.v 0)).eval (fun _ => (pwJ (.v 0)).eval fun _ => (imJ (.v 0)).eval fun _ => w) = (imJ (pwJ (imJ (.v 0)))).eval fun _ => w := by kernel_rfl
    rw [e1]; exact wire (fun _ => w) (imJ (pwJ (imJ (.v 0)))) (imJ (.v 0)) (by kernel_rfl)
  rw [e]
  have e2 : ((imJ (.v 0)).eval (fun _ => w) != (imJ (.v 0)).eval fun _ => w) = false := by simp
  rw [e2]; rfl
end Go.Ev
