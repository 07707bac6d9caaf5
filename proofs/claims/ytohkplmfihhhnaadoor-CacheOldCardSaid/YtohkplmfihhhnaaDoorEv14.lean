/-
  The evaluator, part 14: whole numbers without a sign as bit vectors; functions that leave the store as it is ('Pur').
  Conditions: none.
-/
import Derived.Test.YtohkplmfihhhnaaDoorEv13
namespace Go.Ev
open Go

/-- Called with these, the function answers 'v', and the store says what it said. -/
def Pur (P : Program) (f : FuncId) (args : List Value) (σ : Store) (v : Value) : Prop := ∀ K : Value → Store → Prop, K v σ → Spec P f args σ K

theorem Pur.use {P : Program} {f : FuncId} {args args' : List Value} {σ : Store} {v : Value} (h : Pur P f args' σ v) (e : args = args') {K : Value → Store → Prop} (hK : K v σ) : Spec P f args σ K := by
  subst e; exact h K hK

theorem leaf {α : Type} {K : α → Store → Prop} {v v' : α} {σ : Store} (hK : K v σ) (e : v' = v) : K v' σ := by subst e; exact hK

theorem cond_v {α : Type} {c c' : Bool} {A B : Prop} {a b : α} {F : α → Prop} (e : c = c') (hK : F (bif c' then a else b)) (hA : c' = true → F a → A) (hB : c' = false → F b → B) : (cond c A B : Prop) := by
  subst e; cases c
  · exact hB rfl hK
  · exact hA rfl hK

theorem bif_v {α : Type} {c' : Bool} {C : Prop} {a b : α} {F : α → Prop} (hK : F (bif c' then a else b)) (hA : c' = true → F a → C) (hB : c' = false → F b → C) : C := by
  cases c'
  · exact hB rfl hK
  · exact hA rfl hK

theorem cast_natCast_toNat (n : Nat) : (n : Int).toNat = n := rfl
theorem ofInt_sub {n : Nat} (x y : Int) : BitVec.ofInt n (x - y) = BitVec.ofInt n x - BitVec.ofInt n y := by
  rw [Int.sub_eq_add_neg, BitVec.ofInt_add, BitVec.ofInt_neg, BitVec.sub_eq_add_neg]
theorem ofInt_toNat {n : Nat} (x : BitVec n) : BitVec.ofInt n (x.toNat : Int) = x := by
  rw [BitVec.ofInt_natCast, BitVec.ofNat_toNat, BitVec.setWidth_eq]
theorem ofInt_toNat' {n m : Nat} (x : BitVec n) : BitVec.ofInt m (x.toNat : Int) = x.setWidth m := by
  rw [BitVec.ofInt_natCast, BitVec.ofNat_toNat]
theorem setWidth_same {n : Nat} (x : BitVec n) : x.setWidth n = x := BitVec.setWidth_eq x
theorem beq_nat {n : Nat} (x y : BitVec n) : ((x.toNat : Int) == (y.toNat : Int)) = (x == y) := by
  rw [Bool.eq_iff_iff]; simp [← BitVec.toNat_inj]; omega
theorem bne_nat {n : Nat} (x y : BitVec n) : ((x.toNat : Int) != (y.toNat : Int)) = (x != y) := by
  unfold bne; rw [beq_nat]
theorem lt_nat {n : Nat} (x y : BitVec n) : decide ((x.toNat : Int) < (y.toNat : Int)) = decide (x < y) := by
  rw [Bool.eq_iff_iff]; simp [BitVec.lt_def]
theorem le_nat {n : Nat} (x y : BitVec n) : decide ((x.toNat : Int) ≤ (y.toNat : Int)) = decide (x ≤ y) := by
  rw [Bool.eq_iff_iff]; simp [BitVec.le_def]
theorem gt_nat {n : Nat} (x y : BitVec n) : decide ((x.toNat : Int) > (y.toNat : Int)) = decide (x > y) := by
  rw [Bool.eq_iff_iff]; simp [BitVec.lt_def]
theorem ge_nat {n : Nat} (x y : BitVec n) : decide ((x.toNat : Int) ≥ (y.toNat : Int)) = decide (x ≥ y) := by
  rw [Bool.eq_iff_iff]; simp [BitVec.le_def]
theorem ite_nat {n : Nat} (c : Prop) [Decidable c] (x y : BitVec n) : (if c then (x.toNat : Int) else (y.toNat : Int)) = ((if c then x else y).toNat : Int) := by
  split <;> rfl
theorem lt_nat' {n : Nat} (x y : BitVec n) : ((x.toNat : Int) < (y.toNat : Int)) = (x < y) := by
  simp [BitVec.lt_def]
theorem gt_nat' {n : Nat} (x y : BitVec n) : ((x.toNat : Int) > (y.toNat : Int)) = (x > y) := by
  simp [BitVec.lt_def]
theorem shl_toNat {n : Nat} (x : BitVec n) (k : Nat) : ((x <<< k).toNat : Int) = ((x.toNat : Int) * 2 ^ k) % 2 ^ n := by
  rw [BitVec.toNat_shiftLeft, Nat.shiftLeft_eq]; simp
theorem shr_toNat {n : Nat} (x : BitVec n) (k : Nat) : ((x >>> k).toNat : Int) = (x.toNat : Int) / 2 ^ k := by
  rw [BitVec.toNat_ushiftRight, Nat.shiftRight_eq_div_pow]; simp
theorem pow_min_mod (x : Int) (a n : Nat) : (x * 2 ^ min a n) % 2 ^ n = (x * 2 ^ a) % 2 ^ n := by
  rcases Nat.le_total a n with h | h
  · rw [Nat.min_eq_left h]
  · rw [Nat.min_eq_right h]
    obtain ⟨d, rfl⟩ := Nat.exists_eq_add_of_le h
    rw [Int.pow_add, ← Int.mul_assoc, Int.mul_comm x (2 ^ n), Int.mul_assoc, Int.mul_emod_right, Int.mul_emod_right]
theorem ofInt_toNat_int {n : Nat} (i : Int) : ((BitVec.ofInt n i).toNat : Int) = i % 2 ^ n := by
  rw [BitVec.toNat_ofInt]
  have h2 : ((2 ^ n : Nat) : Int) ≠ 0 := by have := Nat.two_pow_pos n; omega
  have : (0 : Int) ≤ i % ((2 ^ n : Nat) : Int) := Int.emod_nonneg _ h2
  rw [Int.toNat_of_nonneg this]; simp
theorem fdiv_min (x : Int) (h0 : 0 ≤ x) (a n : Nat) (h : x < 2 ^ n) : x.fdiv (2 ^ min a n) = x / 2 ^ a := by
  rw [Int.fdiv_eq_ediv_of_nonneg _ (by exact Int.le_of_lt (Int.pow_pos (by decide)))]
  rcases Nat.le_total a n with h1 | h1
  · rw [Nat.min_eq_left h1]
  · rw [Nat.min_eq_right h1, Int.ediv_eq_zero_of_lt h0 h, Int.ediv_eq_zero_of_lt h0]
    have h3 : (2 ^ n : Nat) ≤ 2 ^ a := Nat.pow_le_pow_right (by decide) h1
    have h4 : ((2 : Int) ^ n) = ((2 ^ n : Nat) : Int) := by simp
    have h5 : ((2 : Int) ^ a) = ((2 ^ a : Nat) : Int) := by simp
    omega

/-! ### u32 -/
theorem wrap_u32_eq (n : Int) : IntKind.u32.wrap n = n % 2 ^ 32 := by simp [IntKind.wrap, IntKind.bits, IntKind.signed]
theorem wrap_u32 (n : Int) : IntKind.u32.wrap n = ((BitVec.ofInt 32 n).toNat : Int) := by rw [wrap_u32_eq, ofInt_toNat_int]
theorem wrap_u32_id (x : BitVec 32) : IntKind.u32.wrap (x.toNat : Int) = (x.toNat : Int) := by rw [wrap_u32, ofInt_toNat]
theorem and_u32 (a b : Int) : andI .u32 a b = ((BitVec.ofInt 32 a &&& BitVec.ofInt 32 b).toNat : Int) := wrap_u32_id (BitVec.ofInt 32 a &&& BitVec.ofInt 32 b)
theorem or_u32 (a b : Int) : orI .u32 a b = ((BitVec.ofInt 32 a ||| BitVec.ofInt 32 b).toNat : Int) := wrap_u32_id (BitVec.ofInt 32 a ||| BitVec.ofInt 32 b)
theorem xor_u32 (a b : Int) : xorI .u32 a b = ((BitVec.ofInt 32 a ^^^ BitVec.ofInt 32 b).toNat : Int) := wrap_u32_id (BitVec.ofInt 32 a ^^^ BitVec.ofInt 32 b)
theorem andNot_u32 (a b : Int) : andNotI .u32 a b = ((BitVec.ofInt 32 a &&& ~~~BitVec.ofInt 32 b).toNat : Int) := wrap_u32_id (BitVec.ofInt 32 a &&& ~~~BitVec.ofInt 32 b)
theorem not_u32 (a : Int) : notI .u32 a = ((~~~BitVec.ofInt 32 a).toNat : Int) := by
  have : notI .u32 a = IntKind.wrap .u32 ((BitVec.ofInt 32 (IntKind.u32.max) ^^^ BitVec.ofInt 32 a).toNat : Int) := rfl
  rw [this, wrap_u32_id]
  have h : BitVec.ofInt 32 (IntKind.u32.max) = BitVec.allOnes 32 := by decide
  rw [h, BitVec.allOnes_xor]
theorem shl_u32 (a n : Int) : shlI .u32 a n = ((BitVec.ofInt 32 a <<< n.toNat).toNat : Int) := by
  show IntKind.wrap .u32 (a * 2 ^ min n.toNat 32) = _
  rw [wrap_u32_eq, shl_toNat, ofInt_toNat_int, pow_min_mod, Int.mul_emod (a % _), Int.emod_emod, ← Int.mul_emod]
theorem shr_u32 (x : BitVec 32) (n : Int) : shrI .u32 (x.toNat : Int) n = ((x >>> n.toNat).toNat : Int) := by
  show (x.toNat : Int).fdiv (2 ^ min n.toNat 32) = _
  rw [fdiv_min _ (by omega) _ _ (by exact_mod_cast x.isLt), shr_toNat]
theorem quo_u32 (x y : BitVec 32) : quoI .u32 (x.toNat : Int) (y.toNat : Int) = ((x / y).toNat : Int) := by
  show IntKind.wrap .u32 ((x.toNat : Int).tdiv (y.toNat : Int)) = _
  rw [show ((x.toNat : Int).tdiv (y.toNat : Int)) = (((x / y).toNat : Nat) : Int) by rw [BitVec.toNat_udiv]; rfl, wrap_u32_id]
theorem mod_u32 (x y : BitVec 32) : Int.tmod (x.toNat : Int) (y.toNat : Int) = ((x % y).toNat : Int) := by
  rw [BitVec.toNat_umod]; rfl
theorem toI64_u32 (x : BitVec 32) : IntKind.i64.wrap (x.toNat : Int) = (x.toNat : Int) := wrap_id (by omega) (by have := x.isLt; omega)

/-! ### u8 -/
theorem wrap_u8_eq (n : Int) : IntKind.u8.wrap n = n % 2 ^ 8 := by simp [IntKind.wrap, IntKind.bits, IntKind.signed]
theorem wrap_u8 (n : Int) : IntKind.u8.wrap n = ((BitVec.ofInt 8 n).toNat : Int) := by rw [wrap_u8_eq, ofInt_toNat_int]
theorem wrap_u8_id (x : BitVec 8) : IntKind.u8.wrap (x.toNat : Int) = (x.toNat : Int) := by rw [wrap_u8, ofInt_toNat]
theorem and_u8 (a b : Int) : andI .u8 a b = ((BitVec.ofInt 8 a &&& BitVec.ofInt 8 b).toNat : Int) := wrap_u8_id (BitVec.ofInt 8 a &&& BitVec.ofInt 8 b)
theorem or_u8 (a b : Int) : orI .u8 a b = ((BitVec.ofInt 8 a ||| BitVec.ofInt 8 b).toNat : Int) := wrap_u8_id (BitVec.ofInt 8 a ||| BitVec.ofInt 8 b)
theorem xor_u8 (a b : Int) : xorI .u8 a b = ((BitVec.ofInt 8 a ^^^ BitVec.ofInt 8 b).toNat : Int) := wrap_u8_id (BitVec.ofInt 8 a ^^^ BitVec.ofInt 8 b)
theorem andNot_u8 (a b : Int) : andNotI .u8 a b = ((BitVec.ofInt 8 a &&& ~~~BitVec.ofInt 8 b).toNat : Int) := wrap_u8_id (BitVec.ofInt 8 a &&& ~~~BitVec.ofInt 8 b)
theorem not_u8 (a : Int) : notI .u8 a = ((~~~BitVec.ofInt 8 a).toNat : Int) := by
  have : notI .u8 a = IntKind.wrap .u8 ((BitVec.ofInt 8 (IntKind.u8.max) ^^^ BitVec.ofInt 8 a).toNat : Int) := rfl
  rw [this, wrap_u8_id]
  have h : BitVec.ofInt 8 (IntKind.u8.max) = BitVec.allOnes 8 := by decide
  rw [h, BitVec.allOnes_xor]
theorem shl_u8 (a n : Int) : shlI .u8 a n = ((BitVec.ofInt 8 a <<< n.toNat).toNat : Int) := by
  show IntKind.wrap .u8 (a * 2 ^ min n.toNat 8) = _
  rw [wrap_u8_eq, shl_toNat, ofInt_toNat_int, pow_min_mod, Int.mul_emod (a % _), Int.emod_emod, ← Int.mul_emod]
theorem shr_u8 (x : BitVec 8) (n : Int) : shrI .u8 (x.toNat : Int) n = ((x >>> n.toNat).toNat : Int) := by
  show (x.toNat : Int).fdiv (2 ^ min n.toNat 8) = _
  rw [fdiv_min _ (by omega) _ _ (by exact_mod_cast x.isLt), shr_toNat]
theorem quo_u8 (x y : BitVec 8) : quoI .u8 (x.toNat : Int) (y.toNat : Int) = ((x / y).toNat : Int) := by
  show IntKind.wrap .u8 ((x.toNat : Int).tdiv (y.toNat : Int)) = _
  rw [show ((x.toNat : Int).tdiv (y.toNat : Int)) = (((x / y).toNat : Nat) : Int) by rw [BitVec.toNat_udiv]; rfl, wrap_u8_id]
theorem mod_u8 (x y : BitVec 8) : Int.tmod (x.toNat : Int) (y.toNat : Int) = ((x % y).toNat : Int) := by
  rw [BitVec.toNat_umod]; rfl
theorem toI64_u8 (x : BitVec 8) : IntKind.i64.wrap (x.toNat : Int) = (x.toNat : Int) := wrap_id (by omega) (by have := x.isLt; omega)

/-! ### u64 -/
theorem wrap_u64_eq (n : Int) : IntKind.u64.wrap n = n % 2 ^ 64 := by simp [IntKind.wrap, IntKind.bits, IntKind.signed]
theorem wrap_u64 (n : Int) : IntKind.u64.wrap n = ((BitVec.ofInt 64 n).toNat : Int) := by rw [wrap_u64_eq, ofInt_toNat_int]
theorem wrap_u64_id (x : BitVec 64) : IntKind.u64.wrap (x.toNat : Int) = (x.toNat : Int) := by rw [wrap_u64, ofInt_toNat]
theorem and_u64 (a b : Int) : andI .u64 a b = ((BitVec.ofInt 64 a &&& BitVec.ofInt 64 b).toNat : Int) := wrap_u64_id (BitVec.ofInt 64 a &&& BitVec.ofInt 64 b)
theorem or_u64 (a b : Int) : orI .u64 a b = ((BitVec.ofInt 64 a ||| BitVec.ofInt 64 b).toNat : Int) := wrap_u64_id (BitVec.ofInt 64 a ||| BitVec.ofInt 64 b)
theorem xor_u64 (a b : Int) : xorI .u64 a b = ((BitVec.ofInt 64 a ^^^ BitVec.ofInt 64 b).toNat : Int) := wrap_u64_id (BitVec.ofInt 64 a ^^^ BitVec.ofInt 64 b)
theorem andNot_u64 (a b : Int) : andNotI .u64 a b = ((BitVec.ofInt 64 a &&& ~~~BitVec.ofInt 64 b).toNat : Int) := wrap_u64_id (BitVec.ofInt 64 a &&& ~~~BitVec.ofInt 64 b)
theorem not_u64 (a : Int) : notI .u64 a = ((~~~BitVec.ofInt 64 a).toNat : Int) := by
  have : notI .u64 a = IntKind.wrap .u64 ((BitVec.ofInt 64 (IntKind.u64.max) ^^^ BitVec.ofInt 64 a).toNat : Int) := rfl
  rw [this, wrap_u64_id]
  have h : BitVec.ofInt 64 (IntKind.u64.max) = BitVec.allOnes 64 := by decide
  rw [h, BitVec.allOnes_xor]
theorem shl_u64 (a n : Int) : shlI .u64 a n = ((BitVec.ofInt 64 a <<< n.toNat).toNat : Int) := by
  show IntKind.wrap .u64 (a * 2 ^ min n.toNat 64) = _
  rw [wrap_u64_eq, shl_toNat, ofInt_toNat_int, pow_min_mod, Int.mul_emod (a % _), Int.emod_emod, ← Int.mul_emod]
theorem shr_u64 (x : BitVec 64) (n : Int) : shrI .u64 (x.toNat : Int) n = ((x >>> n.toNat).toNat : Int) := by
  show (x.toNat : Int).fdiv (2 ^ min n.toNat 64) = _
  rw [fdiv_min _ (by omega) _ _ (by exact_mod_cast x.isLt), shr_toNat]
theorem quo_u64 (x y : BitVec 64) : quoI .u64 (x.toNat : Int) (y.toNat : Int) = ((x / y).toNat : Int) := by
  show IntKind.wrap .u64 ((x.toNat : Int).tdiv (y.toNat : Int)) = _
  rw [show ((x.toNat : Int).tdiv (y.toNat : Int)) = (((x / y).toNat : Nat) : Int) by rw [BitVec.toNat_udiv]; rfl, wrap_u64_id]
theorem mod_u64 (x y : BitVec 64) : Int.tmod (x.toNat : Int) (y.toNat : Int) = ((x % y).toNat : Int) := by
  rw [BitVec.toNat_umod]; rfl
theorem toI64_u64 (x : BitVec 64) : IntKind.i64.wrap (x.toNat : Int) = x.toInt := by rw [IntKind.wrap_i64, BitVec.toInt_eq_toNat_bmod, Int.bmod_def]; have := x.isLt; simp only [Nat.reducePow]; split <;> omega

theorem wrap_i64_eq (x : Int) : IntKind.i64.wrap x = (BitVec.ofInt 64 x).toInt := by
  rw [IntKind.wrap_i64, BitVec.toInt_ofInt, Int.bmod_def]
  simp only [Nat.reducePow]
  split <;> omega
theorem wrap_i32_eq (x : Int) : IntKind.i32.wrap x = (BitVec.ofInt 32 x).toInt := by
  rw [IntKind.wrap_i32, BitVec.toInt_ofInt, Int.bmod_def]
  simp only [Nat.reducePow]
  split <;> omega
theorem wrap_i32_nat (x : BitVec 32) : IntKind.i32.wrap (x.toNat : Int) = x.toInt := by rw [wrap_i32_eq, ofInt_toNat]
theorem ofInt_toInt {n : Nat} (x : BitVec n) : BitVec.ofInt n x.toInt = x := BitVec.ofInt_toInt
theorem wrap_i64_toInt32 (x : BitVec 32) : IntKind.i64.wrap x.toInt = x.toInt := by
  rw [IntKind.wrap_i64]; have := x.toInt_lt; have := x.le_toInt; simp at *; omega

theorem lit_u (w n : Nat) : ((BitVec.ofNat w n).toNat : Int) = ((n % 2 ^ w : Nat) : Int) := by rw [BitVec.toNat_ofNat]
theorem lit_of {n : Nat} {i : Int} (h : 0 ≤ i ∧ i < 2 ^ n) : i = ((BitVec.ofInt n i).toNat : Int) := by rw [ofInt_toNat_int, Int.emod_eq_of_lt h.1 h.2]
theorem beq_lit {n : Nat} (x : BitVec n) {i : Int} (h : 0 ≤ i ∧ i < 2 ^ n) : ((x.toNat : Int) == i) = (x == BitVec.ofInt n i) := by
  have e := lit_of h
  exact (congrArg (fun i => ((x.toNat : Int) == i)) e).trans (beq_nat x (BitVec.ofInt n i))
theorem bne_lit {n : Nat} (x : BitVec n) {i : Int} (h : 0 ≤ i ∧ i < 2 ^ n) : ((x.toNat : Int) != i) = (x != BitVec.ofInt n i) := by
  have e := lit_of h
  exact (congrArg (fun i => ((x.toNat : Int) != i)) e).trans (bne_nat x (BitVec.ofInt n i))
theorem lt_litR {n : Nat} (x : BitVec n) {i : Int} (h : 0 ≤ i ∧ i < 2 ^ n) : decide ((x.toNat : Int) < i) = decide (x < BitVec.ofInt n i) := by
  have e := lit_of h
  exact (congrArg (fun i => decide ((x.toNat : Int) < i)) e).trans (lt_nat x (BitVec.ofInt n i))
theorem le_litR {n : Nat} (x : BitVec n) {i : Int} (h : 0 ≤ i ∧ i < 2 ^ n) : decide ((x.toNat : Int) ≤ i) = decide (x ≤ BitVec.ofInt n i) := by
  have e := lit_of h
  exact (congrArg (fun i => decide ((x.toNat : Int) ≤ i)) e).trans (le_nat x (BitVec.ofInt n i))
theorem gt_litR {n : Nat} (x : BitVec n) {i : Int} (h : 0 ≤ i ∧ i < 2 ^ n) : decide ((x.toNat : Int) > i) = decide (x > BitVec.ofInt n i) := by
  have e := lit_of h
  exact (congrArg (fun i => decide ((x.toNat : Int) > i)) e).trans (gt_nat x (BitVec.ofInt n i))
theorem ge_litR {n : Nat} (x : BitVec n) {i : Int} (h : 0 ≤ i ∧ i < 2 ^ n) : decide ((x.toNat : Int) ≥ i) = decide (x ≥ BitVec.ofInt n i) := by
  have e := lit_of h
  exact (congrArg (fun i => decide ((x.toNat : Int) ≥ i)) e).trans (ge_nat x (BitVec.ofInt n i))
theorem lt_litL {n : Nat} (x : BitVec n) {i : Int} (h : 0 ≤ i ∧ i < 2 ^ n) : decide (i < (x.toNat : Int)) = decide (BitVec.ofInt n i < x) := by
  have e := lit_of h
  exact (congrArg (fun i => decide (i < (x.toNat : Int))) e).trans (lt_nat (BitVec.ofInt n i) x)
theorem le_litL {n : Nat} (x : BitVec n) {i : Int} (h : 0 ≤ i ∧ i < 2 ^ n) : decide (i ≤ (x.toNat : Int)) = decide (BitVec.ofInt n i ≤ x) := by
  have e := lit_of h
  exact (congrArg (fun i => decide (i ≤ (x.toNat : Int))) e).trans (le_nat (BitVec.ofInt n i) x)
theorem gt_litL {n : Nat} (x : BitVec n) {i : Int} (h : 0 ≤ i ∧ i < 2 ^ n) : decide (i > (x.toNat : Int)) = decide (BitVec.ofInt n i > x) := by
  have e := lit_of h
  exact (congrArg (fun i => decide (i > (x.toNat : Int))) e).trans (gt_nat (BitVec.ofInt n i) x)
theorem ge_litL {n : Nat} (x : BitVec n) {i : Int} (h : 0 ≤ i ∧ i < 2 ^ n) : decide (i ≥ (x.toNat : Int)) = decide (BitVec.ofInt n i ≥ x) := by
  have e := lit_of h
  exact (congrArg (fun i => decide (i ≥ (x.toNat : Int))) e).trans (ge_nat (BitVec.ofInt n i) x)

theorem wrap_u64_lit (n : Int) : IntKind.u64.wrap n = n % 18446744073709551616 := by simp [IntKind.wrap, IntKind.bits, IntKind.signed]
end Go.Ev
