import Derived.Test.YtohkplmfihhhnaaDoorFi2
import Derived.Test.YtohkplmfihhhnaaDoorFi1
import Derived.Test.YtohkplmfihhhnaaDoorFi
import Derived.Test.YtohkplmfihhhnaaDoorEv14
set_option linter.unusedVariables false
set_option linter.unusedSimpArgs false
namespace Go.Ev
open Go
/-! ### word_mask -/
def word_mask.v (n_ : Int) : BitVec 32 :=
  bif (decide (n_ ≥ 32)) then
    4294967295#32
  else
    ((1#32 <<< (Int.toNat (if 0 > n_ then 0 else n_))) - 1#32)
theorem word_mask.m_v {K : Value → Store → Prop} {σ : Store} (F : (BitVec 32) → Prop) (n_ : Int) (hk : ∀ r, F r → K (.int .u32 (BitVec.toNat r : Int)) σ) (hF : F (word_mask.v n_)) : word_mask.m K n_ σ := by
  unfold word_mask.m
  unfold word_mask.v at hF
  try dsimp only at hF
  refine cond_v (F := F) (rfl) hF (fun h hF => ?_) (fun h hF => ?_)
  · skip
    exact hk _ hF
  · skip
    refine rq (by (try clear hF); (try clear hk); (try clear hrr); (try simp only [IntKind.wrap_i64, wrap_u64_lit, decide_eq_true_eq, decide_eq_false_iff_not, Bool.and_eq_true, bne_iff_ne, beq_iff_eq, Bool.not_eq_true', Bool.not_eq_false', ne_eq, beq_eq_false_iff_ne, Int.not_lt, Int.not_le, Bool.false_eq_true, false_implies, true_implies] at *) <;> first | omega | (split <;> omega) | (simp_all; done) | (simp_all; omega)) ?_
    exact Eq.mp (by simp only [wrap_u32, shl_u32, Int.toNat_natCast, Int.reduceToNat, gt_nat, gt_litR, gt_litL, ofInt_sub, ofInt_toNat, ofInt_toNat', ofInt_toInt, BitVec.setWidth_eq, lit_u, BitVec.reduceOfInt, BitVec.reduceToNat, Nat.reducePow, Nat.reduceMod, Int.cast_ofNat_Int, Int.natCast_zero, Int.natCast_one, Int.reduceLT, Int.reduceLE, Int.reducePow, and_self, Int.zero_sub, BitVec.zero_sub]) (hk _ hF)
theorem word_mask.pur (n_ : Int) (σ : Store) : Pur Pr F.word_mask [.int .i64 n_] σ (.int .u32 (BitVec.toNat ((word_mask.v n_)) : Int)) := fun K hK =>
  word_mask.ok (word_mask.m_v (fun r => K (.int .u32 (BitVec.toNat r : Int)) σ) n_ (fun _ h => h) hK)

/-! ### word_Bits -/
def word_Bits.v3 (x : BitVec 32) (low : Int) (n_ : Int) : BitVec 32 :=
  let c1 := word_mask.v n_
  ((x >>> (Int.toNat low)) &&& c1)
theorem word_Bits.j3_v {K : Value → Store → Prop} {σ : Store} (F : (BitVec 32) → Prop) (x : BitVec 32) (low : Int) (n_ : Int) (hk : ∀ r, F r → K (.int .u32 (BitVec.toNat r : Int)) σ) (hp : 0 ≤ low) (hF : F (word_Bits.v3 x low n_)) : word_Bits.j3 K (BitVec.toNat x : Int) low n_ σ := by
  unfold word_Bits.j3
  unfold word_Bits.v3 at hF
  try dsimp only at hF
  refine rq (by (try clear hF); (try clear hk); (try clear hrr); (try simp only [IntKind.wrap_i64, wrap_u64_lit, decide_eq_true_eq, decide_eq_false_iff_not, Bool.and_eq_true, bne_iff_ne, beq_iff_eq, Bool.not_eq_true', Bool.not_eq_false', ne_eq, beq_eq_false_iff_ne, Int.not_lt, Int.not_le, Bool.false_eq_true, false_implies, true_implies] at *) <;> first | omega | (split <;> omega) | (simp_all; done) | (simp_all; omega)) ?_
  refine Pur.use (word_mask.pur n_ σ) (rfl) ⟨_, rfl, ?_⟩
  exact Eq.mp (by simp only [and_u32, shr_u32, Int.toNat_natCast, Int.reduceToNat, ofInt_toNat, ofInt_toNat', ofInt_toInt, BitVec.setWidth_eq, lit_u, BitVec.reduceOfInt, BitVec.reduceToNat, Nat.reducePow, Nat.reduceMod, Int.cast_ofNat_Int, Int.natCast_zero, Int.natCast_one, Int.reduceLT, Int.reduceLE, Int.reducePow, and_self, Int.zero_sub, BitVec.zero_sub]) (hk _ hF)
def word_Bits.v (x : BitVec 32) (low : Int) (n_ : Int) : BitVec 32 :=
  bif (decide (low < 0)) then
    0#32
  else
    bif (decide (low ≥ 32)) then
      0#32
    else
      bif (decide (n_ < 1)) then
        0#32
      else
        word_Bits.v3 x low n_
theorem word_Bits.m_v {K : Value → Store → Prop} {σ : Store} (F : (BitVec 32) → Prop) (x : BitVec 32) (low : Int) (n_ : Int) (hk : ∀ r, F r → K (.int .u32 (BitVec.toNat r : Int)) σ) (hF : F (word_Bits.v x low n_)) : word_Bits.m K (BitVec.toNat x : Int) low n_ σ := by
  unfold word_Bits.m
  unfold word_Bits.v at hF
  try dsimp only at hF
  refine cond_v (F := F) (rfl) hF (fun h hF => ?_) (fun h hF => ?_)
  · skip
    exact hk _ hF
  · skip
    refine cond_v (F := F) (rfl) hF (fun h hF => ?_) (fun h hF => ?_)
    · skip
      exact hk _ hF
    · skip
      refine cond_v (F := F) (rfl) hF (fun h hF => ?_) (fun h hF => ?_)
      · skip
        exact hk _ hF
      · skip
        exact hopI (word_Bits.j3_v F x low n_ hk (by (try clear hF); (try clear hk); (try clear hrr); (try simp only [IntKind.wrap_i64, wrap_u64_lit, decide_eq_true_eq, decide_eq_false_iff_not, Bool.and_eq_true, bne_iff_ne, beq_iff_eq, Bool.not_eq_true', Bool.not_eq_false', ne_eq, beq_eq_false_iff_ne, Int.not_lt, Int.not_le, Bool.false_eq_true, false_implies, true_implies] at *) <;> first | omega | (split <;> omega) | (simp_all; done) | (simp_all; omega)) hF)
theorem word_Bits.pur (x : BitVec 32) (low : Int) (n_ : Int) (σ : Store) : Pur Pr F.word_Bits [.int .u32 (BitVec.toNat x : Int), .int .i64 low, .int .i64 n_] σ (.int .u32 (BitVec.toNat ((word_Bits.v x low n_)) : Int)) := fun K hK =>
  word_Bits.ok (word_Bits.m_v (fun r => K (.int .u32 (BitVec.toNat r : Int)) σ) x low n_ (fun _ h => h) hK)

/-! ### word_Sign -/
def word_Sign.v (x : BitVec 32) (n_ : Int) : BitVec 32 :=
  bif (decide (n_ < 1)) then
    0#32
  else
    bif (decide (n_ ≥ 32)) then
      x
    else
      (BitVec.ofInt 32 (shrI .i32 (BitVec.toInt (x <<< (Int.toNat (IntKind.wrap .i64 (32 - n_))))) (IntKind.wrap .i64 (32 - n_))))
theorem word_Sign.m_v {K : Value → Store → Prop} {σ : Store} (F : (BitVec 32) → Prop) (x : BitVec 32) (n_ : Int) (hk : ∀ r, F r → K (.int .u32 (BitVec.toNat r : Int)) σ) (hF : F (word_Sign.v x n_)) : word_Sign.m K (BitVec.toNat x : Int) n_ σ := by
  unfold word_Sign.m
  unfold word_Sign.v at hF
  try dsimp only at hF
  refine cond_v (F := F) (rfl) hF (fun h hF => ?_) (fun h hF => ?_)
  · skip
    exact hk _ hF
  · skip
    refine cond_v (F := F) (rfl) hF (fun h hF => ?_) (fun h hF => ?_)
    · skip
      exact hk _ hF
    · skip
      refine rq (by (try clear hF); (try clear hk); (try clear hrr); (try simp only [IntKind.wrap_i64, wrap_u64_lit, decide_eq_true_eq, decide_eq_false_iff_not, Bool.and_eq_true, bne_iff_ne, beq_iff_eq, Bool.not_eq_true', Bool.not_eq_false', ne_eq, beq_eq_false_iff_ne, Int.not_lt, Int.not_le, Bool.false_eq_true, false_implies, true_implies] at *) <;> first | omega | (split <;> omega) | (simp_all; done) | (simp_all; omega)) ?_
      refine rq (by (try clear hF); (try clear hk); (try clear hrr); (try simp only [IntKind.wrap_i64, wrap_u64_lit, decide_eq_true_eq, decide_eq_false_iff_not, Bool.and_eq_true, bne_iff_ne, beq_iff_eq, Bool.not_eq_true', Bool.not_eq_false', ne_eq, beq_eq_false_iff_ne, Int.not_lt, Int.not_le, Bool.false_eq_true, false_implies, true_implies] at *) <;> first | omega | (split <;> omega) | (simp_all; done) | (simp_all; omega)) ?_
      exact Eq.mp (by simp only [wrap_u32, wrap_i32_nat, Int.toNat_natCast, Int.reduceToNat, shl_u32, toI64_u32, toI64_u8, toI64_u64, wrap_i64_toInt32, ofInt_sub, ofInt_toNat, ofInt_toNat', ofInt_toInt, BitVec.setWidth_eq, lit_u, BitVec.reduceOfInt, BitVec.reduceToNat, Nat.reducePow, Nat.reduceMod, Int.cast_ofNat_Int, Int.natCast_zero, Int.natCast_one, Int.reduceLT, Int.reduceLE, Int.reducePow, and_self, Int.zero_sub, BitVec.zero_sub]) (hk _ hF)
theorem word_Sign.pur (x : BitVec 32) (n_ : Int) (σ : Store) : Pur Pr F.word_Sign [.int .u32 (BitVec.toNat x : Int), .int .i64 n_] σ (.int .u32 (BitVec.toNat ((word_Sign.v x n_)) : Int)) := fun K hK =>
  word_Sign.ok (word_Sign.m_v (fun r => K (.int .u32 (BitVec.toNat r : Int)) σ) x n_ (fun _ h => h) hK)

/-! ### enc_Split -/
def enc_Split.v (w : BitVec 32) : BitVec 32 × BitVec 32 × BitVec 32 × BitVec 32 × BitVec 32 × BitVec 32 :=
  let c1 := word_Bits.v w 0 7
  let c2 := word_Bits.v w 7 5
  let c3 := word_Bits.v w 12 3
  let c4 := word_Bits.v w 15 5
  let c5 := word_Bits.v w 20 5
  let c6 := word_Bits.v w 25 7
  (c1, c2, c3, c4, c5, c6)
theorem enc_Split.m_v {K : Value → Store → Prop} {σ : Store} (F : (BitVec 32 × BitVec 32 × BitVec 32 × BitVec 32 × BitVec 32 × BitVec 32) → Prop) (w : BitVec 32) (hk : ∀ r, F r → K (.agg #[.int .u32 (BitVec.toNat r.1 : Int), .int .u32 (BitVec.toNat r.2.1 : Int), .int .u32 (BitVec.toNat r.2.2.1 : Int), .int .u32 (BitVec.toNat r.2.2.2.1 : Int), .int .u32 (BitVec.toNat r.2.2.2.2.1 : Int), .int .u32 (BitVec.toNat r.2.2.2.2.2 : Int)]) σ) (hF : F (enc_Split.v w)) : enc_Split.m K (BitVec.toNat w : Int) σ := by
  unfold enc_Split.m
  unfold enc_Split.v at hF
  try dsimp only at hF
  refine Pur.use (word_Bits.pur w 0 7 σ) (rfl) ⟨_, rfl, ?_⟩
  refine Pur.use (word_Bits.pur w 7 5 σ) (rfl) ⟨_, rfl, ?_⟩
  refine Pur.use (word_Bits.pur w 12 3 σ) (rfl) ⟨_, rfl, ?_⟩
  refine Pur.use (word_Bits.pur w 15 5 σ) (rfl) ⟨_, rfl, ?_⟩
  refine Pur.use (word_Bits.pur w 20 5 σ) (rfl) ⟨_, rfl, ?_⟩
  refine Pur.use (word_Bits.pur w 25 7 σ) (rfl) ⟨_, rfl, ?_⟩
  exact hk _ hF
theorem enc_Split.pur (w : BitVec 32) (σ : Store) : Pur Pr F.enc_Split [.int .u32 (BitVec.toNat w : Int)] σ (.agg #[.int .u32 (BitVec.toNat ((enc_Split.v w).1) : Int), .int .u32 (BitVec.toNat ((enc_Split.v w).2.1) : Int), .int .u32 (BitVec.toNat ((enc_Split.v w).2.2.1) : Int), .int .u32 (BitVec.toNat ((enc_Split.v w).2.2.2.1) : Int), .int .u32 (BitVec.toNat ((enc_Split.v w).2.2.2.2.1) : Int), .int .u32 (BitVec.toNat ((enc_Split.v w).2.2.2.2.2) : Int)]) := fun K hK =>
  enc_Split.ok (enc_Split.m_v (fun r => K (.agg #[.int .u32 (BitVec.toNat r.1 : Int), .int .u32 (BitVec.toNat r.2.1 : Int), .int .u32 (BitVec.toNat r.2.2.1 : Int), .int .u32 (BitVec.toNat r.2.2.2.1 : Int), .int .u32 (BitVec.toNat r.2.2.2.2.1 : Int), .int .u32 (BitVec.toNat r.2.2.2.2.2 : Int)]) σ) w (fun _ h => h) hK)

/-! ### isa_row_fits -/
def isa_row_fits.v21 (r0 : Int) (r1 : ByteArray) (r2 : Int) (r3 : BitVec 32) (r4 : BitVec 32) (r5 : BitVec 32) (r6 : Int) (h0 : BitVec 32) (h1 : BitVec 32) (h2 : BitVec 32) (h3 : BitVec 32) (h4 : BitVec 32) (h5 : BitVec 32) : Bool :=
  (h2 == r4)
theorem isa_row_fits.j21_v {K : Value → Store → Prop} {σ : Store} (F : Bool → Prop) (r0 : Int) (r1 : ByteArray) (r2 : Int) (r3 : BitVec 32) (r4 : BitVec 32) (r5 : BitVec 32) (r6 : Int) (h0 : BitVec 32) (h1 : BitVec 32) (h2 : BitVec 32) (h3 : BitVec 32) (h4 : BitVec 32) (h5 : BitVec 32) (hk : ∀ r, F r → K (.bool r) σ) (hF : F (isa_row_fits.v21 r0 r1 r2 r3 r4 r5 r6 h0 h1 h2 h3 h4 h5)) : isa_row_fits.j21 K r0 r1 r2 (BitVec.toNat r3 : Int) (BitVec.toNat r4 : Int) (BitVec.toNat r5 : Int) r6 (BitVec.toNat h0 : Int) (BitVec.toNat h1 : Int) (BitVec.toNat h2 : Int) (BitVec.toNat h3 : Int) (BitVec.toNat h4 : Int) (BitVec.toNat h5 : Int) σ := by
  unfold isa_row_fits.j21
  unfold isa_row_fits.v21 at hF
  try dsimp only at hF
  exact Eq.mp (by simp only [beq_nat, beq_lit, ofInt_toNat, ofInt_toNat', ofInt_toInt, BitVec.setWidth_eq, lit_u, BitVec.reduceOfInt, BitVec.reduceToNat, Nat.reducePow, Nat.reduceMod, Int.cast_ofNat_Int, Int.natCast_zero, Int.natCast_one, Int.reduceLT, Int.reduceLE, Int.reducePow, and_self, Int.zero_sub, BitVec.zero_sub]) (hk _ hF)
def isa_row_fits.v12 (w : BitVec 32) (t21 : Int) (t25 : Bool) (r0 : Int) (r1 : ByteArray) (r2 : Int) (r3 : BitVec 32) (r4 : BitVec 32) (r5 : BitVec 32) (r6 : Int) (h0 : BitVec 32) (h1 : BitVec 32) (h2 : BitVec 32) (h3 : BitVec 32) (h4 : BitVec 32) (h5 : BitVec 32) : Bool :=
  bif t25 then
    bif (h2 == r4) then
      (h5 == r5)
    else
      false
  else
    bif (t21 == 7) then
      bif (h2 == r4) then
        bif (h1 == 0#32) then
          bif (h3 == 0#32) then
            let c1 := word_Bits.v w 28 4
            (c1 == 0#32)
          else
            false
        else
          false
      else
        false
    else
      bif (t21 == 9) then
        bif (h2 == r4) then
          bif (h5 == r5) then
            (h1 == 0#32)
          else
            false
        else
          false
      else
        bif (t21 == 12) then
          bif (h2 == r4) then
            bif ((h5 >>> 2) == r5) then
              (h4 == 0#32)
            else
              false
          else
            false
        else
          bif (t21 == 13) then
            bif (h2 == r4) then
              ((h5 >>> 2) == r5)
            else
              false
          else
            isa_row_fits.v21 r0 r1 r2 r3 r4 r5 r6 h0 h1 h2 h3 h4 h5
theorem isa_row_fits.j12_v {K : Value → Store → Prop} {σ : Store} (F : Bool → Prop) (w : BitVec 32) (t21 : Int) (t25 : Bool) (r0 : Int) (r1 : ByteArray) (r2 : Int) (r3 : BitVec 32) (r4 : BitVec 32) (r5 : BitVec 32) (r6 : Int) (h0 : BitVec 32) (h1 : BitVec 32) (h2 : BitVec 32) (h3 : BitVec 32) (h4 : BitVec 32) (h5 : BitVec 32) (hk : ∀ r, F r → K (.bool r) σ) (hF : F (isa_row_fits.v12 w t21 t25 r0 r1 r2 r3 r4 r5 r6 h0 h1 h2 h3 h4 h5)) : isa_row_fits.j12 K (BitVec.toNat w : Int) t21 t25 r0 r1 r2 (BitVec.toNat r3 : Int) (BitVec.toNat r4 : Int) (BitVec.toNat r5 : Int) r6 (BitVec.toNat h0 : Int) (BitVec.toNat h1 : Int) (BitVec.toNat h2 : Int) (BitVec.toNat h3 : Int) (BitVec.toNat h4 : Int) (BitVec.toNat h5 : Int) σ := by
  unfold isa_row_fits.j12
  unfold isa_row_fits.v12 at hF
  try dsimp only at hF
  refine cond_v (F := F) (rfl) hF (fun h hF => ?_) (fun h hF => ?_)
  · skip
    refine cond_v (F := F) (by simp only [beq_nat, beq_lit, ofInt_toNat, ofInt_toNat', ofInt_toInt, BitVec.setWidth_eq, lit_u, BitVec.reduceOfInt, BitVec.reduceToNat, Nat.reducePow, Nat.reduceMod, Int.cast_ofNat_Int, Int.natCast_zero, Int.natCast_one, Int.reduceLT, Int.reduceLE, Int.reducePow, and_self, Int.zero_sub, BitVec.zero_sub]) hF (fun h hF => ?_) (fun h hF => ?_)
    · skip
      exact Eq.mp (by simp only [beq_nat, beq_lit, ofInt_toNat, ofInt_toNat', ofInt_toInt, BitVec.setWidth_eq, lit_u, BitVec.reduceOfInt, BitVec.reduceToNat, Nat.reducePow, Nat.reduceMod, Int.cast_ofNat_Int, Int.natCast_zero, Int.natCast_one, Int.reduceLT, Int.reduceLE, Int.reducePow, and_self, Int.zero_sub, BitVec.zero_sub]) (hk _ hF)
    · skip
      exact hk _ hF
  · skip
    refine cond_v (F := F) (rfl) hF (fun h hF => ?_) (fun h hF => ?_)
    · skip
      refine cond_v (F := F) (by simp only [beq_nat, beq_lit, ofInt_toNat, ofInt_toNat', ofInt_toInt, BitVec.setWidth_eq, lit_u, BitVec.reduceOfInt, BitVec.reduceToNat, Nat.reducePow, Nat.reduceMod, Int.cast_ofNat_Int, Int.natCast_zero, Int.natCast_one, Int.reduceLT, Int.reduceLE, Int.reducePow, and_self, Int.zero_sub, BitVec.zero_sub]) hF (fun h hF => ?_) (fun h hF => ?_)
      · skip
        refine cond_v (F := F) (by simp only [beq_nat, beq_lit, ofInt_toNat, ofInt_toNat', ofInt_toInt, BitVec.setWidth_eq, lit_u, BitVec.reduceOfInt, BitVec.reduceToNat, Nat.reducePow, Nat.reduceMod, Int.cast_ofNat_Int, Int.natCast_zero, Int.natCast_one, Int.reduceLT, Int.reduceLE, Int.reducePow, and_self, Int.zero_sub, BitVec.zero_sub]) hF (fun h hF => ?_) (fun h hF => ?_)
        · skip
          refine cond_v (F := F) (by simp only [beq_nat, beq_lit, ofInt_toNat, ofInt_toNat', ofInt_toInt, BitVec.setWidth_eq, lit_u, BitVec.reduceOfInt, BitVec.reduceToNat, Nat.reducePow, Nat.reduceMod, Int.cast_ofNat_Int, Int.natCast_zero, Int.natCast_one, Int.reduceLT, Int.reduceLE, Int.reducePow, and_self, Int.zero_sub, BitVec.zero_sub]) hF (fun h hF => ?_) (fun h hF => ?_)
          · skip
            refine Pur.use (word_Bits.pur w 28 4 σ) (rfl) ⟨_, rfl, ?_⟩
            exact Eq.mp (by simp only [beq_nat, beq_lit, ofInt_toNat, ofInt_toNat', ofInt_toInt, BitVec.setWidth_eq, lit_u, BitVec.reduceOfInt, BitVec.reduceToNat, Nat.reducePow, Nat.reduceMod, Int.cast_ofNat_Int, Int.natCast_zero, Int.natCast_one, Int.reduceLT, Int.reduceLE, Int.reducePow, and_self, Int.zero_sub, BitVec.zero_sub]) (hk _ hF)
          · skip
            exact hk _ hF
        · skip
          exact hk _ hF
      · skip
        exact hk _ hF
    · skip
      refine cond_v (F := F) (rfl) hF (fun h hF => ?_) (fun h hF => ?_)
      · skip
        refine cond_v (F := F) (by simp only [beq_nat, beq_lit, ofInt_toNat, ofInt_toNat', ofInt_toInt, BitVec.setWidth_eq, lit_u, BitVec.reduceOfInt, BitVec.reduceToNat, Nat.reducePow, Nat.reduceMod, Int.cast_ofNat_Int, Int.natCast_zero, Int.natCast_one, Int.reduceLT, Int.reduceLE, Int.reducePow, and_self, Int.zero_sub, BitVec.zero_sub]) hF (fun h hF => ?_) (fun h hF => ?_)
        · skip
          refine cond_v (F := F) (by simp only [beq_nat, beq_lit, ofInt_toNat, ofInt_toNat', ofInt_toInt, BitVec.setWidth_eq, lit_u, BitVec.reduceOfInt, BitVec.reduceToNat, Nat.reducePow, Nat.reduceMod, Int.cast_ofNat_Int, Int.natCast_zero, Int.natCast_one, Int.reduceLT, Int.reduceLE, Int.reducePow, and_self, Int.zero_sub, BitVec.zero_sub]) hF (fun h hF => ?_) (fun h hF => ?_)
          · skip
            exact Eq.mp (by simp only [beq_nat, beq_lit, ofInt_toNat, ofInt_toNat', ofInt_toInt, BitVec.setWidth_eq, lit_u, BitVec.reduceOfInt, BitVec.reduceToNat, Nat.reducePow, Nat.reduceMod, Int.cast_ofNat_Int, Int.natCast_zero, Int.natCast_one, Int.reduceLT, Int.reduceLE, Int.reducePow, and_self, Int.zero_sub, BitVec.zero_sub]) (hk _ hF)
          · skip
            exact hk _ hF
        · skip
          exact hk _ hF
      · skip
        refine cond_v (F := F) (rfl) hF (fun h hF => ?_) (fun h hF => ?_)
        · skip
          refine cond_v (F := F) (by simp only [beq_nat, beq_lit, ofInt_toNat, ofInt_toNat', ofInt_toInt, BitVec.setWidth_eq, lit_u, BitVec.reduceOfInt, BitVec.reduceToNat, Nat.reducePow, Nat.reduceMod, Int.cast_ofNat_Int, Int.natCast_zero, Int.natCast_one, Int.reduceLT, Int.reduceLE, Int.reducePow, and_self, Int.zero_sub, BitVec.zero_sub]) hF (fun h hF => ?_) (fun h hF => ?_)
          · skip
            refine cond_v (F := F) (by simp only [shr_u32, Int.toNat_natCast, Int.reduceToNat, beq_nat, beq_lit, ofInt_toNat, ofInt_toNat', ofInt_toInt, BitVec.setWidth_eq, lit_u, BitVec.reduceOfInt, BitVec.reduceToNat, Nat.reducePow, Nat.reduceMod, Int.cast_ofNat_Int, Int.natCast_zero, Int.natCast_one, Int.reduceLT, Int.reduceLE, Int.reducePow, and_self, Int.zero_sub, BitVec.zero_sub]) hF (fun h hF => ?_) (fun h hF => ?_)
            · skip
              exact Eq.mp (by simp only [beq_nat, beq_lit, ofInt_toNat, ofInt_toNat', ofInt_toInt, BitVec.setWidth_eq, lit_u, BitVec.reduceOfInt, BitVec.reduceToNat, Nat.reducePow, Nat.reduceMod, Int.cast_ofNat_Int, Int.natCast_zero, Int.natCast_one, Int.reduceLT, Int.reduceLE, Int.reducePow, and_self, Int.zero_sub, BitVec.zero_sub]) (hk _ hF)
            · skip
              exact hk _ hF
          · skip
            exact hk _ hF
        · skip
          refine cond_v (F := F) (rfl) hF (fun h hF => ?_) (fun h hF => ?_)
          · skip
            refine cond_v (F := F) (by simp only [beq_nat, beq_lit, ofInt_toNat, ofInt_toNat', ofInt_toInt, BitVec.setWidth_eq, lit_u, BitVec.reduceOfInt, BitVec.reduceToNat, Nat.reducePow, Nat.reduceMod, Int.cast_ofNat_Int, Int.natCast_zero, Int.natCast_one, Int.reduceLT, Int.reduceLE, Int.reducePow, and_self, Int.zero_sub, BitVec.zero_sub]) hF (fun h hF => ?_) (fun h hF => ?_)
            · skip
              exact Eq.mp (by simp only [shr_u32, Int.toNat_natCast, Int.reduceToNat, beq_nat, beq_lit, ofInt_toNat, ofInt_toNat', ofInt_toInt, BitVec.setWidth_eq, lit_u, BitVec.reduceOfInt, BitVec.reduceToNat, Nat.reducePow, Nat.reduceMod, Int.cast_ofNat_Int, Int.natCast_zero, Int.natCast_one, Int.reduceLT, Int.reduceLE, Int.reducePow, and_self, Int.zero_sub, BitVec.zero_sub]) (hk _ hF)
            · skip
              exact hk _ hF
          · skip
            exact hopI (isa_row_fits.j21_v F r0 r1 r2 r3 r4 r5 r6 h0 h1 h2 h3 h4 h5 hk hF)
def isa_row_fits.v9 (w : BitVec 32) (t21 : Int) (t22 : Bool) (r0 : Int) (r1 : ByteArray) (r2 : Int) (r3 : BitVec 32) (r4 : BitVec 32) (r5 : BitVec 32) (r6 : Int) (h0 : BitVec 32) (h1 : BitVec 32) (h2 : BitVec 32) (h3 : BitVec 32) (h4 : BitVec 32) (h5 : BitVec 32) : Bool :=
  bif t22 then
    true
  else
    bif (t21 == 5) then
      isa_row_fits.v12 w t21 true r0 r1 r2 r3 r4 r5 r6 h0 h1 h2 h3 h4 h5
    else
      isa_row_fits.v12 w t21 (t21 == 6) r0 r1 r2 r3 r4 r5 r6 h0 h1 h2 h3 h4 h5
theorem isa_row_fits.j9_v {K : Value → Store → Prop} {σ : Store} (F : Bool → Prop) (w : BitVec 32) (t21 : Int) (t22 : Bool) (r0 : Int) (r1 : ByteArray) (r2 : Int) (r3 : BitVec 32) (r4 : BitVec 32) (r5 : BitVec 32) (r6 : Int) (h0 : BitVec 32) (h1 : BitVec 32) (h2 : BitVec 32) (h3 : BitVec 32) (h4 : BitVec 32) (h5 : BitVec 32) (hk : ∀ r, F r → K (.bool r) σ) (hF : F (isa_row_fits.v9 w t21 t22 r0 r1 r2 r3 r4 r5 r6 h0 h1 h2 h3 h4 h5)) : isa_row_fits.j9 K (BitVec.toNat w : Int) t21 t22 r0 r1 r2 (BitVec.toNat r3 : Int) (BitVec.toNat r4 : Int) (BitVec.toNat r5 : Int) r6 (BitVec.toNat h0 : Int) (BitVec.toNat h1 : Int) (BitVec.toNat h2 : Int) (BitVec.toNat h3 : Int) (BitVec.toNat h4 : Int) (BitVec.toNat h5 : Int) σ := by
  unfold isa_row_fits.j9
  unfold isa_row_fits.v9 at hF
  try dsimp only at hF
  refine cond_v (F := F) (rfl) hF (fun h hF => ?_) (fun h hF => ?_)
  · skip
    exact hk _ hF
  · skip
    refine cond_v (F := F) (rfl) hF (fun h hF => ?_) (fun h hF => ?_)
    · skip
      exact hopI (isa_row_fits.j12_v F w t21 true r0 r1 r2 r3 r4 r5 r6 h0 h1 h2 h3 h4 h5 hk hF)
    · skip
      exact hopI (isa_row_fits.j12_v F w t21 (t21 == 6) r0 r1 r2 r3 r4 r5 r6 h0 h1 h2 h3 h4 h5 hk hF)
def isa_row_fits.v (r0 : Int) (r1 : ByteArray) (r2 : Int) (r3 : BitVec 32) (r4 : BitVec 32) (r5 : BitVec 32) (r6 : Int) (w : BitVec 32) : Bool :=
  let c1 := enc_Split.v w
  bif (r2 == 8) then
    (w == r3)
  else
    bif (c1.1 != r3) then
      false
    else
      bif (r2 == 0) then
        isa_row_fits.v9 w r2 true r0 r1 r2 r3 r4 r5 r6 c1.1 c1.2.1 c1.2.2.1 c1.2.2.2.1 c1.2.2.2.2.1 c1.2.2.2.2.2
      else
        isa_row_fits.v9 w r2 (r2 == 1) r0 r1 r2 r3 r4 r5 r6 c1.1 c1.2.1 c1.2.2.1 c1.2.2.2.1 c1.2.2.2.2.1 c1.2.2.2.2.2
theorem isa_row_fits.m_v {K : Value → Store → Prop} {σ : Store} (F : Bool → Prop) (r0 : Int) (r1 : ByteArray) (r2 : Int) (r3 : BitVec 32) (r4 : BitVec 32) (r5 : BitVec 32) (r6 : Int) (w : BitVec 32) (hk : ∀ r, F r → K (.bool r) σ) (hF : F (isa_row_fits.v r0 r1 r2 r3 r4 r5 r6 w)) : isa_row_fits.m K r0 r1 r2 (BitVec.toNat r3 : Int) (BitVec.toNat r4 : Int) (BitVec.toNat r5 : Int) r6 (BitVec.toNat w : Int) σ := by
  unfold isa_row_fits.m
  unfold isa_row_fits.v at hF
  try dsimp only at hF
  refine Pur.use (enc_Split.pur w σ) (rfl) ⟨_, _, _, _, _, _, rfl, ?_⟩
  refine cond_v (F := F) (rfl) hF (fun h hF => ?_) (fun h hF => ?_)
  · skip
    exact Eq.mp (by simp only [beq_nat, beq_lit, ofInt_toNat, ofInt_toNat', ofInt_toInt, BitVec.setWidth_eq, lit_u, BitVec.reduceOfInt, BitVec.reduceToNat, Nat.reducePow, Nat.reduceMod, Int.cast_ofNat_Int, Int.natCast_zero, Int.natCast_one, Int.reduceLT, Int.reduceLE, Int.reducePow, and_self, Int.zero_sub, BitVec.zero_sub]) (hk _ hF)
  · skip
    refine cond_v (F := F) (by simp only [bne_nat, bne_lit, ofInt_toNat, ofInt_toNat', ofInt_toInt, BitVec.setWidth_eq, lit_u, BitVec.reduceOfInt, BitVec.reduceToNat, Nat.reducePow, Nat.reduceMod, Int.cast_ofNat_Int, Int.natCast_zero, Int.natCast_one, Int.reduceLT, Int.reduceLE, Int.reducePow, and_self, Int.zero_sub, BitVec.zero_sub]) hF (fun h hF => ?_) (fun h hF => ?_)
    · skip
      exact hk _ hF
    · skip
      refine cond_v (F := F) (rfl) hF (fun h hF => ?_) (fun h hF => ?_)
      · skip
        exact hopI (isa_row_fits.j9_v F w r2 true r0 r1 r2 r3 r4 r5 r6 ((enc_Split.v w).1) ((enc_Split.v w).2.1) ((enc_Split.v w).2.2.1) ((enc_Split.v w).2.2.2.1) ((enc_Split.v w).2.2.2.2.1) ((enc_Split.v w).2.2.2.2.2) hk hF)
      · skip
        exact hopI (isa_row_fits.j9_v F w r2 (r2 == 1) r0 r1 r2 r3 r4 r5 r6 ((enc_Split.v w).1) ((enc_Split.v w).2.1) ((enc_Split.v w).2.2.1) ((enc_Split.v w).2.2.2.1) ((enc_Split.v w).2.2.2.2.1) ((enc_Split.v w).2.2.2.2.2) hk hF)
theorem isa_row_fits.pur (r0 : Int) (r1 : ByteArray) (r2 : Int) (r3 : BitVec 32) (r4 : BitVec 32) (r5 : BitVec 32) (r6 : Int) (w : BitVec 32) (σ : Store) : Pur Pr F.isa_row_fits [.agg #[.int .i64 r0, .string r1, .int .i64 r2, .int .u32 (BitVec.toNat r3 : Int), .int .u32 (BitVec.toNat r4 : Int), .int .u32 (BitVec.toNat r5 : Int), .int .i64 r6], .int .u32 (BitVec.toNat w : Int)] σ (.bool ((isa_row_fits.v r0 r1 r2 r3 r4 r5 r6 w))) := fun K hK =>
  isa_row_fits.ok (isa_row_fits.m_v (fun r => K (.bool r) σ) r0 r1 r2 r3 r4 r5 r6 w (fun _ h => h) hK)

/-! ### isa_row_format -/
def isa_row_format.v (r0 : Int) (r1 : ByteArray) (r2 : Int) (r3 : BitVec 32) (r4 : BitVec 32) (r5 : BitVec 32) (r6 : Int) : BitVec 8 :=
  bif (r2 == 0) then
    85#8
  else
    bif (r2 == 1) then
      74#8
    else
      bif (r2 == 2) then
        73#8
      else
        bif (r2 == 3) then
          66#8
        else
          bif (r2 == 4) then
            83#8
          else
            0#8
theorem isa_row_format.m_v {K : Value → Store → Prop} {σ : Store} (F : (BitVec 8) → Prop) (r0 : Int) (r1 : ByteArray) (r2 : Int) (r3 : BitVec 32) (r4 : BitVec 32) (r5 : BitVec 32) (r6 : Int) (hk : ∀ r, F r → K (.int .u8 (BitVec.toNat r : Int)) σ) (hF : F (isa_row_format.v r0 r1 r2 r3 r4 r5 r6)) : isa_row_format.m K r0 r1 r2 (BitVec.toNat r3 : Int) (BitVec.toNat r4 : Int) (BitVec.toNat r5 : Int) r6 σ := by
  unfold isa_row_format.m
  unfold isa_row_format.v at hF
  try dsimp only at hF
  refine cond_v (F := F) (rfl) hF (fun h hF => ?_) (fun h hF => ?_)
  · skip
    exact hk _ hF
  · skip
    refine cond_v (F := F) (rfl) hF (fun h hF => ?_) (fun h hF => ?_)
    · skip
      exact hk _ hF
    · skip
      refine cond_v (F := F) (rfl) hF (fun h hF => ?_) (fun h hF => ?_)
      · skip
        exact hk _ hF
      · skip
        refine cond_v (F := F) (rfl) hF (fun h hF => ?_) (fun h hF => ?_)
        · skip
          exact hk _ hF
        · skip
          refine cond_v (F := F) (rfl) hF (fun h hF => ?_) (fun h hF => ?_)
          · skip
            exact hk _ hF
          · skip
            exact hk _ hF
theorem isa_row_format.pur (r0 : Int) (r1 : ByteArray) (r2 : Int) (r3 : BitVec 32) (r4 : BitVec 32) (r5 : BitVec 32) (r6 : Int) (σ : Store) : Pur Pr F.isa_row_format [.agg #[.int .i64 r0, .string r1, .int .i64 r2, .int .u32 (BitVec.toNat r3 : Int), .int .u32 (BitVec.toNat r4 : Int), .int .u32 (BitVec.toNat r5 : Int), .int .i64 r6]] σ (.int .u8 (BitVec.toNat ((isa_row_format.v r0 r1 r2 r3 r4 r5 r6)) : Int)) := fun K hK =>
  isa_row_format.ok (isa_row_format.m_v (fun r => K (.int .u8 (BitVec.toNat r : Int)) σ) r0 r1 r2 r3 r4 r5 r6 (fun _ h => h) hK)

/-! ### corralref_SameInst -/
def corralref_SameInst.v (a0 : Int) (a1 : Int) (a2 : Int) (a3 : Int) (a4 : Int) (a5 : BitVec 32) (a6 : Bool) (a7 : Bool) (b0 : Int) (b1 : Int) (b2 : Int) (b3 : Int) (b4 : Int) (b5 : BitVec 32) (b6 : Bool) (b7 : Bool) : Bool :=
  bif (a0 == b0) then
    bif (a1 == b1) then
      bif (a2 == b2) then
        bif (a3 == b3) then
          bif (a4 == b4) then
            bif (a5 == b5) then
              bif (a6 == b6) then
                (a7 == b7)
              else
                false
            else
              false
          else
            false
        else
          false
      else
        false
    else
      false
  else
    false
theorem corralref_SameInst.m_v {K : Value → Store → Prop} {σ : Store} (F : Bool → Prop) (a0 : Int) (a1 : Int) (a2 : Int) (a3 : Int) (a4 : Int) (a5 : BitVec 32) (a6 : Bool) (a7 : Bool) (b0 : Int) (b1 : Int) (b2 : Int) (b3 : Int) (b4 : Int) (b5 : BitVec 32) (b6 : Bool) (b7 : Bool) (hk : ∀ r, F r → K (.bool r) σ) (hF : F (corralref_SameInst.v a0 a1 a2 a3 a4 a5 a6 a7 b0 b1 b2 b3 b4 b5 b6 b7)) : corralref_SameInst.m K a0 a1 a2 a3 a4 (BitVec.toNat a5 : Int) a6 a7 b0 b1 b2 b3 b4 (BitVec.toNat b5 : Int) b6 b7 σ := by
  unfold corralref_SameInst.m
  unfold corralref_SameInst.v at hF
  try dsimp only at hF
  refine cond_v (F := F) (rfl) hF (fun h hF => ?_) (fun h hF => ?_)
  · skip
    refine cond_v (F := F) (rfl) hF (fun h hF => ?_) (fun h hF => ?_)
    · skip
      refine cond_v (F := F) (rfl) hF (fun h hF => ?_) (fun h hF => ?_)
      · skip
        refine cond_v (F := F) (rfl) hF (fun h hF => ?_) (fun h hF => ?_)
        · skip
          refine cond_v (F := F) (rfl) hF (fun h hF => ?_) (fun h hF => ?_)
          · skip
            refine cond_v (F := F) (by simp only [beq_nat, beq_lit, ofInt_toNat, ofInt_toNat', ofInt_toInt, BitVec.setWidth_eq, lit_u, BitVec.reduceOfInt, BitVec.reduceToNat, Nat.reducePow, Nat.reduceMod, Int.cast_ofNat_Int, Int.natCast_zero, Int.natCast_one, Int.reduceLT, Int.reduceLE, Int.reducePow, and_self, Int.zero_sub, BitVec.zero_sub]) hF (fun h hF => ?_) (fun h hF => ?_)
            · skip
              refine cond_v (F := F) (rfl) hF (fun h hF => ?_) (fun h hF => ?_)
              · skip
                exact hk _ hF
              · skip
                exact hk _ hF
            · skip
              exact hk _ hF
          · skip
            exact hk _ hF
        · skip
          exact hk _ hF
      · skip
        exact hk _ hF
    · skip
      exact hk _ hF
  · skip
    exact hk _ hF
theorem corralref_SameInst.pur (a0 : Int) (a1 : Int) (a2 : Int) (a3 : Int) (a4 : Int) (a5 : BitVec 32) (a6 : Bool) (a7 : Bool) (b0 : Int) (b1 : Int) (b2 : Int) (b3 : Int) (b4 : Int) (b5 : BitVec 32) (b6 : Bool) (b7 : Bool) (σ : Store) : Pur Pr F.corralref_SameInst [.agg #[.int .i64 a0, .int .i64 a1, .int .i64 a2, .int .i64 a3, .int .i64 a4, .int .u32 (BitVec.toNat a5 : Int), .bool a6, .bool a7], .agg #[.int .i64 b0, .int .i64 b1, .int .i64 b2, .int .i64 b3, .int .i64 b4, .int .u32 (BitVec.toNat b5 : Int), .bool b6, .bool b7]] σ (.bool ((corralref_SameInst.v a0 a1 a2 a3 a4 a5 a6 a7 b0 b1 b2 b3 b4 b5 b6 b7))) := fun K hK =>
  corralref_SameInst.ok (corralref_SameInst.m_v (fun r => K (.bool r) σ) a0 a1 a2 a3 a4 a5 a6 a7 b0 b1 b2 b3 b4 b5 b6 b7 (fun _ h => h) hK)

/-! ### corralref1_Bits -/
def corralref1_Bits.v3 (x : BitVec 32) (low : Int) (n_ : Int) : BitVec 32 :=
  bif (decide (n_ ≥ 32)) then
    (x >>> (BitVec.toNat (BitVec.ofInt 64 low)))
  else
    ((x >>> (BitVec.toNat (BitVec.ofInt 64 low))) &&& ((1#32 <<< (BitVec.toNat (BitVec.ofInt 64 n_))) - 1#32))
theorem corralref1_Bits.j3_v {K : Value → Store → Prop} {σ : Store} (F : (BitVec 32) → Prop) (x : BitVec 32) (low : Int) (n_ : Int) (hk : ∀ r, F r → K (.int .u32 (BitVec.toNat r : Int)) σ) (hp : 0 ≤ low) (hF : F (corralref1_Bits.v3 x low n_)) : corralref1_Bits.j3 K (BitVec.toNat x : Int) low n_ σ := by
  unfold corralref1_Bits.j3
  unfold corralref1_Bits.v3 at hF
  try dsimp only at hF
  refine rq (by (try clear hF); (try clear hk); (try clear hrr); (try simp only [IntKind.wrap_i64, wrap_u64_lit, decide_eq_true_eq, decide_eq_false_iff_not, Bool.and_eq_true, bne_iff_ne, beq_iff_eq, Bool.not_eq_true', Bool.not_eq_false', ne_eq, beq_eq_false_iff_ne, Int.not_lt, Int.not_le, Bool.false_eq_true, false_implies, true_implies] at *) <;> first | omega | (split <;> omega) | (simp_all; done) | (simp_all; omega)) ?_
  refine cond_v (F := F) (rfl) hF (fun h hF => ?_) (fun h hF => ?_)
  · skip
    exact Eq.mp (by simp only [shr_u32, Int.toNat_natCast, Int.reduceToNat, wrap_u64, ofInt_toNat, ofInt_toNat', ofInt_toInt, BitVec.setWidth_eq, lit_u, BitVec.reduceOfInt, BitVec.reduceToNat, Nat.reducePow, Nat.reduceMod, Int.cast_ofNat_Int, Int.natCast_zero, Int.natCast_one, Int.reduceLT, Int.reduceLE, Int.reducePow, and_self, Int.zero_sub, BitVec.zero_sub]) (hk _ hF)
  · skip
    refine rq (by (try clear hF); (try clear hk); (try clear hrr); (try simp only [IntKind.wrap_i64, wrap_u64_lit, decide_eq_true_eq, decide_eq_false_iff_not, Bool.and_eq_true, bne_iff_ne, beq_iff_eq, Bool.not_eq_true', Bool.not_eq_false', ne_eq, beq_eq_false_iff_ne, Int.not_lt, Int.not_le, Bool.false_eq_true, false_implies, true_implies] at *) <;> first | omega | (split <;> omega) | (simp_all; done) | (simp_all; omega)) ?_
    exact Eq.mp (by simp only [and_u32, shr_u32, Int.toNat_natCast, Int.reduceToNat, wrap_u64, wrap_u32, shl_u32, ofInt_sub, ofInt_toNat, ofInt_toNat', ofInt_toInt, BitVec.setWidth_eq, lit_u, BitVec.reduceOfInt, BitVec.reduceToNat, Nat.reducePow, Nat.reduceMod, Int.cast_ofNat_Int, Int.natCast_zero, Int.natCast_one, Int.reduceLT, Int.reduceLE, Int.reducePow, and_self, Int.zero_sub, BitVec.zero_sub]) (hk _ hF)
def corralref1_Bits.v (x : BitVec 32) (low : Int) (n_ : Int) : BitVec 32 :=
  bif (decide (low < 0)) then
    0#32
  else
    bif (decide (low > 31)) then
      0#32
    else
      bif (decide (n_ < 1)) then
        0#32
      else
        corralref1_Bits.v3 x low n_
theorem corralref1_Bits.m_v {K : Value → Store → Prop} {σ : Store} (F : (BitVec 32) → Prop) (x : BitVec 32) (low : Int) (n_ : Int) (hk : ∀ r, F r → K (.int .u32 (BitVec.toNat r : Int)) σ) (hF : F (corralref1_Bits.v x low n_)) : corralref1_Bits.m K (BitVec.toNat x : Int) low n_ σ := by
  unfold corralref1_Bits.m
  unfold corralref1_Bits.v at hF
  try dsimp only at hF
  refine cond_v (F := F) (rfl) hF (fun h hF => ?_) (fun h hF => ?_)
  · skip
    exact hk _ hF
  · skip
    refine cond_v (F := F) (rfl) hF (fun h hF => ?_) (fun h hF => ?_)
    · skip
      exact hk _ hF
    · skip
      refine cond_v (F := F) (rfl) hF (fun h hF => ?_) (fun h hF => ?_)
      · skip
        exact hk _ hF
      · skip
        exact hopI (corralref1_Bits.j3_v F x low n_ hk (by (try clear hF); (try clear hk); (try clear hrr); (try simp only [IntKind.wrap_i64, wrap_u64_lit, decide_eq_true_eq, decide_eq_false_iff_not, Bool.and_eq_true, bne_iff_ne, beq_iff_eq, Bool.not_eq_true', Bool.not_eq_false', ne_eq, beq_eq_false_iff_ne, Int.not_lt, Int.not_le, Bool.false_eq_true, false_implies, true_implies] at *) <;> first | omega | (split <;> omega) | (simp_all; done) | (simp_all; omega)) hF)
theorem corralref1_Bits.pur (x : BitVec 32) (low : Int) (n_ : Int) (σ : Store) : Pur Pr F.corralref1_Bits [.int .u32 (BitVec.toNat x : Int), .int .i64 low, .int .i64 n_] σ (.int .u32 (BitVec.toNat ((corralref1_Bits.v x low n_)) : Int)) := fun K hK =>
  corralref1_Bits.ok (corralref1_Bits.m_v (fun r => K (.int .u32 (BitVec.toNat r : Int)) σ) x low n_ (fun _ h => h) hK)

/-! ### corralref1_Sign -/
def corralref1_Sign.v (x : BitVec 32) (n_ : Int) : BitVec 32 :=
  bif (decide (n_ < 1)) then
    0#32
  else
    bif (decide (n_ > 31)) then
      x
    else
      bif (((x &&& ((1#32 <<< (BitVec.toNat (BitVec.ofInt 64 n_))) - 1#32)) >>> (BitVec.toNat (BitVec.ofInt 64 (IntKind.wrap .i64 (n_ - 1))))) == 1#32) then
        ((x &&& ((1#32 <<< (BitVec.toNat (BitVec.ofInt 64 n_))) - 1#32)) ||| (~~~((1#32 <<< (BitVec.toNat (BitVec.ofInt 64 n_))) - 1#32)))
      else
        (x &&& ((1#32 <<< (BitVec.toNat (BitVec.ofInt 64 n_))) - 1#32))
theorem corralref1_Sign.m_v {K : Value → Store → Prop} {σ : Store} (F : (BitVec 32) → Prop) (x : BitVec 32) (n_ : Int) (hk : ∀ r, F r → K (.int .u32 (BitVec.toNat r : Int)) σ) (hF : F (corralref1_Sign.v x n_)) : corralref1_Sign.m K (BitVec.toNat x : Int) n_ σ := by
  unfold corralref1_Sign.m
  unfold corralref1_Sign.v at hF
  try dsimp only at hF
  refine cond_v (F := F) (rfl) hF (fun h hF => ?_) (fun h hF => ?_)
  · skip
    exact hk _ hF
  · skip
    refine cond_v (F := F) (rfl) hF (fun h hF => ?_) (fun h hF => ?_)
    · skip
      exact hk _ hF
    · skip
      refine rq (by (try clear hF); (try clear hk); (try clear hrr); (try simp only [IntKind.wrap_i64, wrap_u64_lit, decide_eq_true_eq, decide_eq_false_iff_not, Bool.and_eq_true, bne_iff_ne, beq_iff_eq, Bool.not_eq_true', Bool.not_eq_false', ne_eq, beq_eq_false_iff_ne, Int.not_lt, Int.not_le, Bool.false_eq_true, false_implies, true_implies] at *) <;> first | omega | (split <;> omega) | (simp_all; done) | (simp_all; omega)) ?_
      refine rq (by (try clear hF); (try clear hk); (try clear hrr); (try simp only [IntKind.wrap_i64, wrap_u64_lit, decide_eq_true_eq, decide_eq_false_iff_not, Bool.and_eq_true, bne_iff_ne, beq_iff_eq, Bool.not_eq_true', Bool.not_eq_false', ne_eq, beq_eq_false_iff_ne, Int.not_lt, Int.not_le, Bool.false_eq_true, false_implies, true_implies] at *) <;> first | omega | (split <;> omega) | (simp_all; done) | (simp_all; omega)) ?_
      refine cond_v (F := F) (by simp only [shr_u32, Int.toNat_natCast, Int.reduceToNat, and_u32, wrap_u32, shl_u32, wrap_u64, ofInt_sub, toI64_u32, toI64_u8, toI64_u64, wrap_i64_toInt32, beq_nat, beq_lit, ofInt_toNat, ofInt_toNat', ofInt_toInt, BitVec.setWidth_eq, lit_u, BitVec.reduceOfInt, BitVec.reduceToNat, Nat.reducePow, Nat.reduceMod, Int.cast_ofNat_Int, Int.natCast_zero, Int.natCast_one, Int.reduceLT, Int.reduceLE, Int.reducePow, and_self, Int.zero_sub, BitVec.zero_sub]) hF (fun h hF => ?_) (fun h hF => ?_)
      · skip
        refine rq (by (try clear hF); (try clear hk); (try clear hrr); (try simp only [IntKind.wrap_i64, wrap_u64_lit, decide_eq_true_eq, decide_eq_false_iff_not, Bool.and_eq_true, bne_iff_ne, beq_iff_eq, Bool.not_eq_true', Bool.not_eq_false', ne_eq, beq_eq_false_iff_ne, Int.not_lt, Int.not_le, Bool.false_eq_true, false_implies, true_implies] at *) <;> first | omega | (split <;> omega) | (simp_all; done) | (simp_all; omega)) ?_
        exact Eq.mp (by simp only [or_u32, and_u32, wrap_u32, shl_u32, Int.toNat_natCast, Int.reduceToNat, wrap_u64, ofInt_sub, not_u32, ofInt_toNat, ofInt_toNat', ofInt_toInt, BitVec.setWidth_eq, lit_u, BitVec.reduceOfInt, BitVec.reduceToNat, Nat.reducePow, Nat.reduceMod, Int.cast_ofNat_Int, Int.natCast_zero, Int.natCast_one, Int.reduceLT, Int.reduceLE, Int.reducePow, and_self, Int.zero_sub, BitVec.zero_sub]) (hk _ hF)
      · skip
        exact Eq.mp (by simp only [and_u32, wrap_u32, shl_u32, Int.toNat_natCast, Int.reduceToNat, wrap_u64, ofInt_sub, ofInt_toNat, ofInt_toNat', ofInt_toInt, BitVec.setWidth_eq, lit_u, BitVec.reduceOfInt, BitVec.reduceToNat, Nat.reducePow, Nat.reduceMod, Int.cast_ofNat_Int, Int.natCast_zero, Int.natCast_one, Int.reduceLT, Int.reduceLE, Int.reducePow, and_self, Int.zero_sub, BitVec.zero_sub]) (hk _ hF)
theorem corralref1_Sign.pur (x : BitVec 32) (n_ : Int) (σ : Store) : Pur Pr F.corralref1_Sign [.int .u32 (BitVec.toNat x : Int), .int .i64 n_] σ (.int .u32 (BitVec.toNat ((corralref1_Sign.v x n_)) : Int)) := fun K hK =>
  corralref1_Sign.ok (corralref1_Sign.m_v (fun r => K (.int .u32 (BitVec.toNat r : Int)) σ) x n_ (fun _ h => h) hK)

/-! ### corralref1_Place -/
def corralref1_Place.v3 (v : BitVec 32) (low : Int) (n_ : Int) : BitVec 32 :=
  let c1 := corralref1_Bits.v v 0 n_
  (c1 <<< (BitVec.toNat (BitVec.ofInt 64 low)))
theorem corralref1_Place.j3_v {K : Value → Store → Prop} {σ : Store} (F : (BitVec 32) → Prop) (v : BitVec 32) (low : Int) (n_ : Int) (hk : ∀ r, F r → K (.int .u32 (BitVec.toNat r : Int)) σ) (hp : 0 ≤ low) (hF : F (corralref1_Place.v3 v low n_)) : corralref1_Place.j3 K (BitVec.toNat v : Int) low n_ σ := by
  unfold corralref1_Place.j3
  unfold corralref1_Place.v3 at hF
  try dsimp only at hF
  refine Pur.use (corralref1_Bits.pur v 0 n_ σ) (rfl) ⟨_, rfl, ?_⟩
  refine rq (by (try clear hF); (try clear hk); (try clear hrr); (try simp only [IntKind.wrap_i64, wrap_u64_lit, decide_eq_true_eq, decide_eq_false_iff_not, Bool.and_eq_true, bne_iff_ne, beq_iff_eq, Bool.not_eq_true', Bool.not_eq_false', ne_eq, beq_eq_false_iff_ne, Int.not_lt, Int.not_le, Bool.false_eq_true, false_implies, true_implies] at *) <;> first | omega | (split <;> omega) | (simp_all; done) | (simp_all; omega)) ?_
  exact Eq.mp (by simp only [shl_u32, Int.toNat_natCast, Int.reduceToNat, wrap_u64, ofInt_toNat, ofInt_toNat', ofInt_toInt, BitVec.setWidth_eq, lit_u, BitVec.reduceOfInt, BitVec.reduceToNat, Nat.reducePow, Nat.reduceMod, Int.cast_ofNat_Int, Int.natCast_zero, Int.natCast_one, Int.reduceLT, Int.reduceLE, Int.reducePow, and_self, Int.zero_sub, BitVec.zero_sub]) (hk _ hF)
def corralref1_Place.v (v : BitVec 32) (low : Int) (n_ : Int) : BitVec 32 :=
  bif (decide (low < 0)) then
    0#32
  else
    bif (decide (low > 31)) then
      0#32
    else
      bif (decide (n_ < 1)) then
        0#32
      else
        corralref1_Place.v3 v low n_
theorem corralref1_Place.m_v {K : Value → Store → Prop} {σ : Store} (F : (BitVec 32) → Prop) (v : BitVec 32) (low : Int) (n_ : Int) (hk : ∀ r, F r → K (.int .u32 (BitVec.toNat r : Int)) σ) (hF : F (corralref1_Place.v v low n_)) : corralref1_Place.m K (BitVec.toNat v : Int) low n_ σ := by
  unfold corralref1_Place.m
  unfold corralref1_Place.v at hF
  try dsimp only at hF
  refine cond_v (F := F) (rfl) hF (fun h hF => ?_) (fun h hF => ?_)
  · skip
    exact hk _ hF
  · skip
    refine cond_v (F := F) (rfl) hF (fun h hF => ?_) (fun h hF => ?_)
    · skip
      exact hk _ hF
    · skip
      refine cond_v (F := F) (rfl) hF (fun h hF => ?_) (fun h hF => ?_)
      · skip
        exact hk _ hF
      · skip
        exact hopI (corralref1_Place.j3_v F v low n_ hk (by (try clear hF); (try clear hk); (try clear hrr); (try simp only [IntKind.wrap_i64, wrap_u64_lit, decide_eq_true_eq, decide_eq_false_iff_not, Bool.and_eq_true, bne_iff_ne, beq_iff_eq, Bool.not_eq_true', Bool.not_eq_false', ne_eq, beq_eq_false_iff_ne, Int.not_lt, Int.not_le, Bool.false_eq_true, false_implies, true_implies] at *) <;> first | omega | (split <;> omega) | (simp_all; done) | (simp_all; omega)) hF)
theorem corralref1_Place.pur (v : BitVec 32) (low : Int) (n_ : Int) (σ : Store) : Pur Pr F.corralref1_Place [.int .u32 (BitVec.toNat v : Int), .int .i64 low, .int .i64 n_] σ (.int .u32 (BitVec.toNat ((corralref1_Place.v v low n_)) : Int)) := fun K hK =>
  corralref1_Place.ok (corralref1_Place.m_v (fun r => K (.int .u32 (BitVec.toNat r : Int)) σ) v low n_ (fun _ h => h) hK)

/-! ### corralref1_Imm -/
def corralref1_Imm.v (format : BitVec 8) (w : BitVec 32) : BitVec 32 :=
  bif (format == 73#8) then
    let c1 := corralref1_Bits.v w 20 12
    let c2 := corralref1_Sign.v c1 12
    c2
  else
    bif (format == 83#8) then
      let c3 := corralref1_Bits.v w 25 7
      let c4 := corralref1_Bits.v w 7 5
      let c5 := corralref1_Sign.v ((c3 <<< 5) ||| c4) 12
      c5
    else
      bif (format == 66#8) then
        let c6 := corralref1_Bits.v w 31 1
        let c7 := corralref1_Bits.v w 7 1
        let c8 := corralref1_Bits.v w 25 6
        let c9 := corralref1_Bits.v w 8 4
        let c10 := corralref1_Sign.v ((((c6 <<< 12) ||| (c7 <<< 11)) ||| (c8 <<< 5)) ||| (c9 <<< 1)) 13
        c10
      else
        bif (format == 85#8) then
          let c11 := corralref1_Bits.v w 12 20
          (c11 <<< 12)
        else
          bif (format == 74#8) then
            let c12 := corralref1_Bits.v w 31 1
            let c13 := corralref1_Bits.v w 12 8
            let c14 := corralref1_Bits.v w 20 1
            let c15 := corralref1_Bits.v w 21 10
            let c16 := corralref1_Sign.v ((((c12 <<< 20) ||| (c13 <<< 12)) ||| (c14 <<< 11)) ||| (c15 <<< 1)) 21
            c16
          else
            0#32
theorem corralref1_Imm.m_v {K : Value → Store → Prop} {σ : Store} (F : (BitVec 32) → Prop) (format : BitVec 8) (w : BitVec 32) (hk : ∀ r, F r → K (.int .u32 (BitVec.toNat r : Int)) σ) (hF : F (corralref1_Imm.v format w)) : corralref1_Imm.m K (BitVec.toNat format : Int) (BitVec.toNat w : Int) σ := by
  unfold corralref1_Imm.m
  unfold corralref1_Imm.v at hF
  try dsimp only at hF
  refine cond_v (F := F) (by simp only [beq_nat, beq_lit, ofInt_toNat, ofInt_toNat', ofInt_toInt, BitVec.setWidth_eq, lit_u, BitVec.reduceOfInt, BitVec.reduceToNat, Nat.reducePow, Nat.reduceMod, Int.cast_ofNat_Int, Int.natCast_zero, Int.natCast_one, Int.reduceLT, Int.reduceLE, Int.reducePow, and_self, Int.zero_sub, BitVec.zero_sub]) hF (fun h hF => ?_) (fun h hF => ?_)
  · skip
    refine Pur.use (corralref1_Bits.pur w 20 12 σ) (rfl) ⟨_, rfl, ?_⟩
    refine Pur.use (corralref1_Sign.pur (corralref1_Bits.v w 20 12) 12 σ) (rfl) ⟨_, rfl, ?_⟩
    exact hk _ hF
  · skip
    refine cond_v (F := F) (by simp only [beq_nat, beq_lit, ofInt_toNat, ofInt_toNat', ofInt_toInt, BitVec.setWidth_eq, lit_u, BitVec.reduceOfInt, BitVec.reduceToNat, Nat.reducePow, Nat.reduceMod, Int.cast_ofNat_Int, Int.natCast_zero, Int.natCast_one, Int.reduceLT, Int.reduceLE, Int.reducePow, and_self, Int.zero_sub, BitVec.zero_sub]) hF (fun h hF => ?_) (fun h hF => ?_)
    · skip
      refine Pur.use (corralref1_Bits.pur w 25 7 σ) (rfl) ⟨_, rfl, ?_⟩
      refine Pur.use (corralref1_Bits.pur w 7 5 σ) (rfl) ⟨_, rfl, ?_⟩
      refine Pur.use (corralref1_Sign.pur (((corralref1_Bits.v w 25 7) <<< 5) ||| (corralref1_Bits.v w 7 5)) 12 σ) (by simp only [or_u32, shl_u32, Int.toNat_natCast, Int.reduceToNat, ofInt_toNat, ofInt_toNat', ofInt_toInt, BitVec.setWidth_eq, lit_u, BitVec.reduceOfInt, BitVec.reduceToNat, Nat.reducePow, Nat.reduceMod, Int.cast_ofNat_Int, Int.natCast_zero, Int.natCast_one, Int.reduceLT, Int.reduceLE, Int.reducePow, and_self, Int.zero_sub, BitVec.zero_sub]) ⟨_, rfl, ?_⟩
      exact hk _ hF
    · skip
      refine cond_v (F := F) (by simp only [beq_nat, beq_lit, ofInt_toNat, ofInt_toNat', ofInt_toInt, BitVec.setWidth_eq, lit_u, BitVec.reduceOfInt, BitVec.reduceToNat, Nat.reducePow, Nat.reduceMod, Int.cast_ofNat_Int, Int.natCast_zero, Int.natCast_one, Int.reduceLT, Int.reduceLE, Int.reducePow, and_self, Int.zero_sub, BitVec.zero_sub]) hF (fun h hF => ?_) (fun h hF => ?_)
      · skip
        refine Pur.use (corralref1_Bits.pur w 31 1 σ) (rfl) ⟨_, rfl, ?_⟩
        refine Pur.use (corralref1_Bits.pur w 7 1 σ) (rfl) ⟨_, rfl, ?_⟩
        refine Pur.use (corralref1_Bits.pur w 25 6 σ) (rfl) ⟨_, rfl, ?_⟩
        refine Pur.use (corralref1_Bits.pur w 8 4 σ) (rfl) ⟨_, rfl, ?_⟩
        refine Pur.use (corralref1_Sign.pur (((((corralref1_Bits.v w 31 1) <<< 12) ||| ((corralref1_Bits.v w 7 1) <<< 11)) ||| ((corralref1_Bits.v w 25 6) <<< 5)) ||| ((corralref1_Bits.v w 8 4) <<< 1)) 13 σ) (by simp only [or_u32, shl_u32, Int.toNat_natCast, Int.reduceToNat, ofInt_toNat, ofInt_toNat', ofInt_toInt, BitVec.setWidth_eq, lit_u, BitVec.reduceOfInt, BitVec.reduceToNat, Nat.reducePow, Nat.reduceMod, Int.cast_ofNat_Int, Int.natCast_zero, Int.natCast_one, Int.reduceLT, Int.reduceLE, Int.reducePow, and_self, Int.zero_sub, BitVec.zero_sub]) ⟨_, rfl, ?_⟩
        exact hk _ hF
      · skip
        refine cond_v (F := F) (by simp only [beq_nat, beq_lit, ofInt_toNat, ofInt_toNat', ofInt_toInt, BitVec.setWidth_eq, lit_u, BitVec.reduceOfInt, BitVec.reduceToNat, Nat.reducePow, Nat.reduceMod, Int.cast_ofNat_Int, Int.natCast_zero, Int.natCast_one, Int.reduceLT, Int.reduceLE, Int.reducePow, and_self, Int.zero_sub, BitVec.zero_sub]) hF (fun h hF => ?_) (fun h hF => ?_)
        · skip
          refine Pur.use (corralref1_Bits.pur w 12 20 σ) (rfl) ⟨_, rfl, ?_⟩
          exact Eq.mp (by simp only [shl_u32, Int.toNat_natCast, Int.reduceToNat, ofInt_toNat, ofInt_toNat', ofInt_toInt, BitVec.setWidth_eq, lit_u, BitVec.reduceOfInt, BitVec.reduceToNat, Nat.reducePow, Nat.reduceMod, Int.cast_ofNat_Int, Int.natCast_zero, Int.natCast_one, Int.reduceLT, Int.reduceLE, Int.reducePow, and_self, Int.zero_sub, BitVec.zero_sub]) (hk _ hF)
        · skip
          refine cond_v (F := F) (by simp only [beq_nat, beq_lit, ofInt_toNat, ofInt_toNat', ofInt_toInt, BitVec.setWidth_eq, lit_u, BitVec.reduceOfInt, BitVec.reduceToNat, Nat.reducePow, Nat.reduceMod, Int.cast_ofNat_Int, Int.natCast_zero, Int.natCast_one, Int.reduceLT, Int.reduceLE, Int.reducePow, and_self, Int.zero_sub, BitVec.zero_sub]) hF (fun h hF => ?_) (fun h hF => ?_)
          · skip
            refine Pur.use (corralref1_Bits.pur w 31 1 σ) (rfl) ⟨_, rfl, ?_⟩
            refine Pur.use (corralref1_Bits.pur w 12 8 σ) (rfl) ⟨_, rfl, ?_⟩
            refine Pur.use (corralref1_Bits.pur w 20 1 σ) (rfl) ⟨_, rfl, ?_⟩
            refine Pur.use (corralref1_Bits.pur w 21 10 σ) (rfl) ⟨_, rfl, ?_⟩
            refine Pur.use (corralref1_Sign.pur (((((corralref1_Bits.v w 31 1) <<< 20) ||| ((corralref1_Bits.v w 12 8) <<< 12)) ||| ((corralref1_Bits.v w 20 1) <<< 11)) ||| ((corralref1_Bits.v w 21 10) <<< 1)) 21 σ) (by simp only [or_u32, shl_u32, Int.toNat_natCast, Int.reduceToNat, ofInt_toNat, ofInt_toNat', ofInt_toInt, BitVec.setWidth_eq, lit_u, BitVec.reduceOfInt, BitVec.reduceToNat, Nat.reducePow, Nat.reduceMod, Int.cast_ofNat_Int, Int.natCast_zero, Int.natCast_one, Int.reduceLT, Int.reduceLE, Int.reducePow, and_self, Int.zero_sub, BitVec.zero_sub]) ⟨_, rfl, ?_⟩
            exact hk _ hF
          · skip
            exact hk _ hF
theorem corralref1_Imm.pur (format : BitVec 8) (w : BitVec 32) (σ : Store) : Pur Pr F.corralref1_Imm [.int .u8 (BitVec.toNat format : Int), .int .u32 (BitVec.toNat w : Int)] σ (.int .u32 (BitVec.toNat ((corralref1_Imm.v format w)) : Int)) := fun K hK =>
  corralref1_Imm.ok (corralref1_Imm.m_v (fun r => K (.int .u32 (BitVec.toNat r : Int)) σ) format w (fun _ h => h) hK)

/-! ### corralref1_Lay -/
def corralref1_Lay.v14 (format : BitVec 8) (imm : BitVec 32) (w : BitVec 32) : BitVec 32 × Bool :=
  let c1 := corralref1_Imm.v format w
  bif (c1 != imm) then
    (0#32, false)
  else
    (w, true)
theorem corralref1_Lay.j14_v {K : Value → Store → Prop} {σ : Store} (F : (BitVec 32 × Bool) → Prop) (format : BitVec 8) (imm : BitVec 32) (w : BitVec 32) (hk : ∀ r, F r → K (.tuple #[.int .u32 (BitVec.toNat r.1 : Int), .bool r.2]) σ) (hF : F (corralref1_Lay.v14 format imm w)) : corralref1_Lay.j14 K (BitVec.toNat format : Int) (BitVec.toNat imm : Int) (BitVec.toNat w : Int) σ := by
  unfold corralref1_Lay.j14
  unfold corralref1_Lay.v14 at hF
  try dsimp only at hF
  refine Pur.use (corralref1_Imm.pur format w σ) (rfl) ⟨_, rfl, ?_⟩
  refine cond_v (F := F) (by simp only [bne_nat, bne_lit, ofInt_toNat, ofInt_toNat', ofInt_toInt, BitVec.setWidth_eq, lit_u, BitVec.reduceOfInt, BitVec.reduceToNat, Nat.reducePow, Nat.reduceMod, Int.cast_ofNat_Int, Int.natCast_zero, Int.natCast_one, Int.reduceLT, Int.reduceLE, Int.reducePow, and_self, Int.zero_sub, BitVec.zero_sub]) hF (fun h hF => ?_) (fun h hF => ?_)
  · skip
    exact hk _ hF
  · skip
    exact hk _ hF
def corralref1_Lay.v (format : BitVec 8) (imm : BitVec 32) : BitVec 32 × Bool :=
  bif (format == 73#8) then
    let c1 := corralref1_Place.v imm 20 12
    corralref1_Lay.v14 format imm c1
  else
    bif (format == 83#8) then
      let c2 := corralref1_Place.v (imm >>> 5) 25 7
      let c3 := corralref1_Place.v imm 7 5
      corralref1_Lay.v14 format imm (c2 ||| c3)
    else
      bif (format == 66#8) then
        let c4 := corralref1_Place.v (imm >>> 12) 31 1
        let c5 := corralref1_Place.v (imm >>> 11) 7 1
        let c6 := corralref1_Place.v (imm >>> 5) 25 6
        let c7 := corralref1_Place.v (imm >>> 1) 8 4
        corralref1_Lay.v14 format imm (((c4 ||| c5) ||| c6) ||| c7)
      else
        bif (format == 85#8) then
          let c8 := corralref1_Place.v (imm >>> 12) 12 20
          corralref1_Lay.v14 format imm c8
        else
          bif (format == 74#8) then
            let c9 := corralref1_Place.v (imm >>> 20) 31 1
            let c10 := corralref1_Place.v (imm >>> 12) 12 8
            let c11 := corralref1_Place.v (imm >>> 11) 20 1
            let c12 := corralref1_Place.v (imm >>> 1) 21 10
            corralref1_Lay.v14 format imm (((c9 ||| c10) ||| c11) ||| c12)
          else
            (0#32, false)
theorem corralref1_Lay.m_v {K : Value → Store → Prop} {σ : Store} (F : (BitVec 32 × Bool) → Prop) (format : BitVec 8) (imm : BitVec 32) (hk : ∀ r, F r → K (.tuple #[.int .u32 (BitVec.toNat r.1 : Int), .bool r.2]) σ) (hF : F (corralref1_Lay.v format imm)) : corralref1_Lay.m K (BitVec.toNat format : Int) (BitVec.toNat imm : Int) σ := by
  unfold corralref1_Lay.m
  unfold corralref1_Lay.v at hF
  try dsimp only at hF
  refine cond_v (F := F) (by simp only [beq_nat, beq_lit, ofInt_toNat, ofInt_toNat', ofInt_toInt, BitVec.setWidth_eq, lit_u, BitVec.reduceOfInt, BitVec.reduceToNat, Nat.reducePow, Nat.reduceMod, Int.cast_ofNat_Int, Int.natCast_zero, Int.natCast_one, Int.reduceLT, Int.reduceLE, Int.reducePow, and_self, Int.zero_sub, BitVec.zero_sub]) hF (fun h hF => ?_) (fun h hF => ?_)
  · skip
    refine Pur.use (corralref1_Place.pur imm 20 12 σ) (rfl) ⟨_, rfl, ?_⟩
    exact hopI (corralref1_Lay.j14_v F format imm (corralref1_Place.v imm 20 12) hk hF)
  · skip
    refine cond_v (F := F) (by simp only [beq_nat, beq_lit, ofInt_toNat, ofInt_toNat', ofInt_toInt, BitVec.setWidth_eq, lit_u, BitVec.reduceOfInt, BitVec.reduceToNat, Nat.reducePow, Nat.reduceMod, Int.cast_ofNat_Int, Int.natCast_zero, Int.natCast_one, Int.reduceLT, Int.reduceLE, Int.reducePow, and_self, Int.zero_sub, BitVec.zero_sub]) hF (fun h hF => ?_) (fun h hF => ?_)
    · skip
      refine Pur.use (corralref1_Place.pur (imm >>> 5) 25 7 σ) (by simp only [shr_u32, Int.toNat_natCast, Int.reduceToNat, ofInt_toNat, ofInt_toNat', ofInt_toInt, BitVec.setWidth_eq, lit_u, BitVec.reduceOfInt, BitVec.reduceToNat, Nat.reducePow, Nat.reduceMod, Int.cast_ofNat_Int, Int.natCast_zero, Int.natCast_one, Int.reduceLT, Int.reduceLE, Int.reducePow, and_self, Int.zero_sub, BitVec.zero_sub]) ⟨_, rfl, ?_⟩
      refine Pur.use (corralref1_Place.pur imm 7 5 σ) (rfl) ⟨_, rfl, ?_⟩
      exact hopI (Eq.mp (by simp only [or_u32, ofInt_toNat, ofInt_toNat', ofInt_toInt, BitVec.setWidth_eq, lit_u, BitVec.reduceOfInt, BitVec.reduceToNat, Nat.reducePow, Nat.reduceMod, Int.cast_ofNat_Int, Int.natCast_zero, Int.natCast_one, Int.reduceLT, Int.reduceLE, Int.reducePow, and_self, Int.zero_sub, BitVec.zero_sub]) (corralref1_Lay.j14_v F format imm ((corralref1_Place.v (imm >>> 5) 25 7) ||| (corralref1_Place.v imm 7 5)) hk hF))
    · skip
      refine cond_v (F := F) (by simp only [beq_nat, beq_lit, ofInt_toNat, ofInt_toNat', ofInt_toInt, BitVec.setWidth_eq, lit_u, BitVec.reduceOfInt, BitVec.reduceToNat, Nat.reducePow, Nat.reduceMod, Int.cast_ofNat_Int, Int.natCast_zero, Int.natCast_one, Int.reduceLT, Int.reduceLE, Int.reducePow, and_self, Int.zero_sub, BitVec.zero_sub]) hF (fun h hF => ?_) (fun h hF => ?_)
      · skip
        refine Pur.use (corralref1_Place.pur (imm >>> 12) 31 1 σ) (by simp only [shr_u32, Int.toNat_natCast, Int.reduceToNat, ofInt_toNat, ofInt_toNat', ofInt_toInt, BitVec.setWidth_eq, lit_u, BitVec.reduceOfInt, BitVec.reduceToNat, Nat.reducePow, Nat.reduceMod, Int.cast_ofNat_Int, Int.natCast_zero, Int.natCast_one, Int.reduceLT, Int.reduceLE, Int.reducePow, and_self, Int.zero_sub, BitVec.zero_sub]) ⟨_, rfl, ?_⟩
        refine Pur.use (corralref1_Place.pur (imm >>> 11) 7 1 σ) (by simp only [shr_u32, Int.toNat_natCast, Int.reduceToNat, ofInt_toNat, ofInt_toNat', ofInt_toInt, BitVec.setWidth_eq, lit_u, BitVec.reduceOfInt, BitVec.reduceToNat, Nat.reducePow, Nat.reduceMod, Int.cast_ofNat_Int, Int.natCast_zero, Int.natCast_one, Int.reduceLT, Int.reduceLE, Int.reducePow, and_self, Int.zero_sub, BitVec.zero_sub]) ⟨_, rfl, ?_⟩
        refine Pur.use (corralref1_Place.pur (imm >>> 5) 25 6 σ) (by simp only [shr_u32, Int.toNat_natCast, Int.reduceToNat, ofInt_toNat, ofInt_toNat', ofInt_toInt, BitVec.setWidth_eq, lit_u, BitVec.reduceOfInt, BitVec.reduceToNat, Nat.reducePow, Nat.reduceMod, Int.cast_ofNat_Int, Int.natCast_zero, Int.natCast_one, Int.reduceLT, Int.reduceLE, Int.reducePow, and_self, Int.zero_sub, BitVec.zero_sub]) ⟨_, rfl, ?_⟩
        refine Pur.use (corralref1_Place.pur (imm >>> 1) 8 4 σ) (by simp only [shr_u32, Int.toNat_natCast, Int.reduceToNat, ofInt_toNat, ofInt_toNat', ofInt_toInt, BitVec.setWidth_eq, lit_u, BitVec.reduceOfInt, BitVec.reduceToNat, Nat.reducePow, Nat.reduceMod, Int.cast_ofNat_Int, Int.natCast_zero, Int.natCast_one, Int.reduceLT, Int.reduceLE, Int.reducePow, and_self, Int.zero_sub, BitVec.zero_sub]) ⟨_, rfl, ?_⟩
        exact hopI (Eq.mp (by simp only [or_u32, ofInt_toNat, ofInt_toNat', ofInt_toInt, BitVec.setWidth_eq, lit_u, BitVec.reduceOfInt, BitVec.reduceToNat, Nat.reducePow, Nat.reduceMod, Int.cast_ofNat_Int, Int.natCast_zero, Int.natCast_one, Int.reduceLT, Int.reduceLE, Int.reducePow, and_self, Int.zero_sub, BitVec.zero_sub]) (corralref1_Lay.j14_v F format imm ((((corralref1_Place.v (imm >>> 12) 31 1) ||| (corralref1_Place.v (imm >>> 11) 7 1)) ||| (corralref1_Place.v (imm >>> 5) 25 6)) ||| (corralref1_Place.v (imm >>> 1) 8 4)) hk hF))
      · skip
        refine cond_v (F := F) (by simp only [beq_nat, beq_lit, ofInt_toNat, ofInt_toNat', ofInt_toInt, BitVec.setWidth_eq, lit_u, BitVec.reduceOfInt, BitVec.reduceToNat, Nat.reducePow, Nat.reduceMod, Int.cast_ofNat_Int, Int.natCast_zero, Int.natCast_one, Int.reduceLT, Int.reduceLE, Int.reducePow, and_self, Int.zero_sub, BitVec.zero_sub]) hF (fun h hF => ?_) (fun h hF => ?_)
        · skip
          refine Pur.use (corralref1_Place.pur (imm >>> 12) 12 20 σ) (by simp only [shr_u32, Int.toNat_natCast, Int.reduceToNat, ofInt_toNat, ofInt_toNat', ofInt_toInt, BitVec.setWidth_eq, lit_u, BitVec.reduceOfInt, BitVec.reduceToNat, Nat.reducePow, Nat.reduceMod, Int.cast_ofNat_Int, Int.natCast_zero, Int.natCast_one, Int.reduceLT, Int.reduceLE, Int.reducePow, and_self, Int.zero_sub, BitVec.zero_sub]) ⟨_, rfl, ?_⟩
          exact hopI (corralref1_Lay.j14_v F format imm (corralref1_Place.v (imm >>> 12) 12 20) hk hF)
        · skip
          refine cond_v (F := F) (by simp only [beq_nat, beq_lit, ofInt_toNat, ofInt_toNat', ofInt_toInt, BitVec.setWidth_eq, lit_u, BitVec.reduceOfInt, BitVec.reduceToNat, Nat.reducePow, Nat.reduceMod, Int.cast_ofNat_Int, Int.natCast_zero, Int.natCast_one, Int.reduceLT, Int.reduceLE, Int.reducePow, and_self, Int.zero_sub, BitVec.zero_sub]) hF (fun h hF => ?_) (fun h hF => ?_)
          · skip
            refine Pur.use (corralref1_Place.pur (imm >>> 20) 31 1 σ) (by simp only [shr_u32, Int.toNat_natCast, Int.reduceToNat, ofInt_toNat, ofInt_toNat', ofInt_toInt, BitVec.setWidth_eq, lit_u, BitVec.reduceOfInt, BitVec.reduceToNat, Nat.reducePow, Nat.reduceMod, Int.cast_ofNat_Int, Int.natCast_zero, Int.natCast_one, Int.reduceLT, Int.reduceLE, Int.reducePow, and_self, Int.zero_sub, BitVec.zero_sub]) ⟨_, rfl, ?_⟩
            refine Pur.use (corralref1_Place.pur (imm >>> 12) 12 8 σ) (by simp only [shr_u32, Int.toNat_natCast, Int.reduceToNat, ofInt_toNat, ofInt_toNat', ofInt_toInt, BitVec.setWidth_eq, lit_u, BitVec.reduceOfInt, BitVec.reduceToNat, Nat.reducePow, Nat.reduceMod, Int.cast_ofNat_Int, Int.natCast_zero, Int.natCast_one, Int.reduceLT, Int.reduceLE, Int.reducePow, and_self, Int.zero_sub, BitVec.zero_sub]) ⟨_, rfl, ?_⟩
            refine Pur.use (corralref1_Place.pur (imm >>> 11) 20 1 σ) (by simp only [shr_u32, Int.toNat_natCast, Int.reduceToNat, ofInt_toNat, ofInt_toNat', ofInt_toInt, BitVec.setWidth_eq, lit_u, BitVec.reduceOfInt, BitVec.reduceToNat, Nat.reducePow, Nat.reduceMod, Int.cast_ofNat_Int, Int.natCast_zero, Int.natCast_one, Int.reduceLT, Int.reduceLE, Int.reducePow, and_self, Int.zero_sub, BitVec.zero_sub]) ⟨_, rfl, ?_⟩
            refine Pur.use (corralref1_Place.pur (imm >>> 1) 21 10 σ) (by simp only [shr_u32, Int.toNat_natCast, Int.reduceToNat, ofInt_toNat, ofInt_toNat', ofInt_toInt, BitVec.setWidth_eq, lit_u, BitVec.reduceOfInt, BitVec.reduceToNat, Nat.reducePow, Nat.reduceMod, Int.cast_ofNat_Int, Int.natCast_zero, Int.natCast_one, Int.reduceLT, Int.reduceLE, Int.reducePow, and_self, Int.zero_sub, BitVec.zero_sub]) ⟨_, rfl, ?_⟩
            exact hopI (Eq.mp (by simp only [or_u32, ofInt_toNat, ofInt_toNat', ofInt_toInt, BitVec.setWidth_eq, lit_u, BitVec.reduceOfInt, BitVec.reduceToNat, Nat.reducePow, Nat.reduceMod, Int.cast_ofNat_Int, Int.natCast_zero, Int.natCast_one, Int.reduceLT, Int.reduceLE, Int.reducePow, and_self, Int.zero_sub, BitVec.zero_sub]) (corralref1_Lay.j14_v F format imm ((((corralref1_Place.v (imm >>> 20) 31 1) ||| (corralref1_Place.v (imm >>> 12) 12 8)) ||| (corralref1_Place.v (imm >>> 11) 20 1)) ||| (corralref1_Place.v (imm >>> 1) 21 10)) hk hF))
          · skip
            exact hk _ hF
theorem corralref1_Lay.pur (format : BitVec 8) (imm : BitVec 32) (σ : Store) : Pur Pr F.corralref1_Lay [.int .u8 (BitVec.toNat format : Int), .int .u32 (BitVec.toNat imm : Int)] σ (.tuple #[.int .u32 (BitVec.toNat ((corralref1_Lay.v format imm).1) : Int), .bool ((corralref1_Lay.v format imm).2)]) := fun K hK =>
  corralref1_Lay.ok (corralref1_Lay.m_v (fun r => K (.tuple #[.int .u32 (BitVec.toNat r.1 : Int), .bool r.2]) σ) format imm (fun _ h => h) hK)

/-! ### corralref1_imm -/
def corralref1_imm.v (format : BitVec 8) (w : BitVec 32) : BitVec 32 :=
  bif (format == 90#8) then
    let c1 := corralref1_Bits.v w 20 5
    c1
  else
    bif (format == 67#8) then
      let c2 := corralref1_Bits.v w 15 5
      c2
    else
      bif (format == 70#8) then
        let c3 := corralref1_Bits.v w 20 8
        c3
      else
        let c4 := corralref1_Imm.v format w
        c4
theorem corralref1_imm.m_v {K : Value → Store → Prop} {σ : Store} (F : (BitVec 32) → Prop) (format : BitVec 8) (w : BitVec 32) (hk : ∀ r, F r → K (.int .u32 (BitVec.toNat r : Int)) σ) (hF : F (corralref1_imm.v format w)) : corralref1_imm.m K (BitVec.toNat format : Int) (BitVec.toNat w : Int) σ := by
  unfold corralref1_imm.m
  unfold corralref1_imm.v at hF
  try dsimp only at hF
  refine cond_v (F := F) (by simp only [beq_nat, beq_lit, ofInt_toNat, ofInt_toNat', ofInt_toInt, BitVec.setWidth_eq, lit_u, BitVec.reduceOfInt, BitVec.reduceToNat, Nat.reducePow, Nat.reduceMod, Int.cast_ofNat_Int, Int.natCast_zero, Int.natCast_one, Int.reduceLT, Int.reduceLE, Int.reducePow, and_self, Int.zero_sub, BitVec.zero_sub]) hF (fun h hF => ?_) (fun h hF => ?_)
  · skip
    refine Pur.use (corralref1_Bits.pur w 20 5 σ) (rfl) ⟨_, rfl, ?_⟩
    exact hk _ hF
  · skip
    refine cond_v (F := F) (by simp only [beq_nat, beq_lit, ofInt_toNat, ofInt_toNat', ofInt_toInt, BitVec.setWidth_eq, lit_u, BitVec.reduceOfInt, BitVec.reduceToNat, Nat.reducePow, Nat.reduceMod, Int.cast_ofNat_Int, Int.natCast_zero, Int.natCast_one, Int.reduceLT, Int.reduceLE, Int.reducePow, and_self, Int.zero_sub, BitVec.zero_sub]) hF (fun h hF => ?_) (fun h hF => ?_)
    · skip
      refine Pur.use (corralref1_Bits.pur w 15 5 σ) (rfl) ⟨_, rfl, ?_⟩
      exact hk _ hF
    · skip
      refine cond_v (F := F) (by simp only [beq_nat, beq_lit, ofInt_toNat, ofInt_toNat', ofInt_toInt, BitVec.setWidth_eq, lit_u, BitVec.reduceOfInt, BitVec.reduceToNat, Nat.reducePow, Nat.reduceMod, Int.cast_ofNat_Int, Int.natCast_zero, Int.natCast_one, Int.reduceLT, Int.reduceLE, Int.reducePow, and_self, Int.zero_sub, BitVec.zero_sub]) hF (fun h hF => ?_) (fun h hF => ?_)
      · skip
        refine Pur.use (corralref1_Bits.pur w 20 8 σ) (rfl) ⟨_, rfl, ?_⟩
        exact hk _ hF
      · skip
        refine Pur.use (corralref1_Imm.pur format w σ) (rfl) ⟨_, rfl, ?_⟩
        exact hk _ hF
theorem corralref1_imm.pur (format : BitVec 8) (w : BitVec 32) (σ : Store) : Pur Pr F.corralref1_imm [.int .u8 (BitVec.toNat format : Int), .int .u32 (BitVec.toNat w : Int)] σ (.int .u32 (BitVec.toNat ((corralref1_imm.v format w)) : Int)) := fun K hK =>
  corralref1_imm.ok (corralref1_imm.m_v (fun r => K (.int .u32 (BitVec.toNat r : Int)) σ) format w (fun _ h => h) hK)

/-! ### corralref1_lay -/
def corralref1_lay.v (format : BitVec 8) (v : BitVec 32) : BitVec 32 × Bool :=
  bif (format == 0#8) then
    (0#32, (v == 0#32))
  else
    bif (format == 90#8) then
      ((v <<< 20), (decide (v < 32#32)))
    else
      bif (format == 67#8) then
        ((v <<< 15), (decide (v < 32#32)))
      else
        bif (format == 70#8) then
          ((v <<< 20), (decide (v < 256#32)))
        else
          let c1 := corralref1_Lay.v format v
          (c1.1, c1.2)
theorem corralref1_lay.m_v {K : Value → Store → Prop} {σ : Store} (F : (BitVec 32 × Bool) → Prop) (format : BitVec 8) (v : BitVec 32) (hk : ∀ r, F r → K (.tuple #[.int .u32 (BitVec.toNat r.1 : Int), .bool r.2]) σ) (hF : F (corralref1_lay.v format v)) : corralref1_lay.m K (BitVec.toNat format : Int) (BitVec.toNat v : Int) σ := by
  unfold corralref1_lay.m
  unfold corralref1_lay.v at hF
  try dsimp only at hF
  refine cond_v (F := F) (by simp only [beq_nat, beq_lit, ofInt_toNat, ofInt_toNat', ofInt_toInt, BitVec.setWidth_eq, lit_u, BitVec.reduceOfInt, BitVec.reduceToNat, Nat.reducePow, Nat.reduceMod, Int.cast_ofNat_Int, Int.natCast_zero, Int.natCast_one, Int.reduceLT, Int.reduceLE, Int.reducePow, and_self, Int.zero_sub, BitVec.zero_sub]) hF (fun h hF => ?_) (fun h hF => ?_)
  · skip
    exact Eq.mp (by simp only [beq_nat, beq_lit, ofInt_toNat, ofInt_toNat', ofInt_toInt, BitVec.setWidth_eq, lit_u, BitVec.reduceOfInt, BitVec.reduceToNat, Nat.reducePow, Nat.reduceMod, Int.cast_ofNat_Int, Int.natCast_zero, Int.natCast_one, Int.reduceLT, Int.reduceLE, Int.reducePow, and_self, Int.zero_sub, BitVec.zero_sub]) (hk _ hF)
  · skip
    refine cond_v (F := F) (by simp only [beq_nat, beq_lit, ofInt_toNat, ofInt_toNat', ofInt_toInt, BitVec.setWidth_eq, lit_u, BitVec.reduceOfInt, BitVec.reduceToNat, Nat.reducePow, Nat.reduceMod, Int.cast_ofNat_Int, Int.natCast_zero, Int.natCast_one, Int.reduceLT, Int.reduceLE, Int.reducePow, and_self, Int.zero_sub, BitVec.zero_sub]) hF (fun h hF => ?_) (fun h hF => ?_)
    · skip
      exact Eq.mp (by simp only [shl_u32, Int.toNat_natCast, Int.reduceToNat, lt_nat, lt_litR, lt_litL, ofInt_toNat, ofInt_toNat', ofInt_toInt, BitVec.setWidth_eq, lit_u, BitVec.reduceOfInt, BitVec.reduceToNat, Nat.reducePow, Nat.reduceMod, Int.cast_ofNat_Int, Int.natCast_zero, Int.natCast_one, Int.reduceLT, Int.reduceLE, Int.reducePow, and_self, Int.zero_sub, BitVec.zero_sub]) (hk _ hF)
    · skip
      refine cond_v (F := F) (by simp only [beq_nat, beq_lit, ofInt_toNat, ofInt_toNat', ofInt_toInt, BitVec.setWidth_eq, lit_u, BitVec.reduceOfInt, BitVec.reduceToNat, Nat.reducePow, Nat.reduceMod, Int.cast_ofNat_Int, Int.natCast_zero, Int.natCast_one, Int.reduceLT, Int.reduceLE, Int.reducePow, and_self, Int.zero_sub, BitVec.zero_sub]) hF (fun h hF => ?_) (fun h hF => ?_)
      · skip
        exact Eq.mp (by simp only [shl_u32, Int.toNat_natCast, Int.reduceToNat, lt_nat, lt_litR, lt_litL, ofInt_toNat, ofInt_toNat', ofInt_toInt, BitVec.setWidth_eq, lit_u, BitVec.reduceOfInt, BitVec.reduceToNat, Nat.reducePow, Nat.reduceMod, Int.cast_ofNat_Int, Int.natCast_zero, Int.natCast_one, Int.reduceLT, Int.reduceLE, Int.reducePow, and_self, Int.zero_sub, BitVec.zero_sub]) (hk _ hF)
      · skip
        refine cond_v (F := F) (by simp only [beq_nat, beq_lit, ofInt_toNat, ofInt_toNat', ofInt_toInt, BitVec.setWidth_eq, lit_u, BitVec.reduceOfInt, BitVec.reduceToNat, Nat.reducePow, Nat.reduceMod, Int.cast_ofNat_Int, Int.natCast_zero, Int.natCast_one, Int.reduceLT, Int.reduceLE, Int.reducePow, and_self, Int.zero_sub, BitVec.zero_sub]) hF (fun h hF => ?_) (fun h hF => ?_)
        · skip
          exact Eq.mp (by simp only [shl_u32, Int.toNat_natCast, Int.reduceToNat, lt_nat, lt_litR, lt_litL, ofInt_toNat, ofInt_toNat', ofInt_toInt, BitVec.setWidth_eq, lit_u, BitVec.reduceOfInt, BitVec.reduceToNat, Nat.reducePow, Nat.reduceMod, Int.cast_ofNat_Int, Int.natCast_zero, Int.natCast_one, Int.reduceLT, Int.reduceLE, Int.reducePow, and_self, Int.zero_sub, BitVec.zero_sub]) (hk _ hF)
        · skip
          refine Pur.use (corralref1_Lay.pur format v σ) (rfl) ⟨_, _, rfl, ?_⟩
          exact hk _ hF
theorem corralref1_lay.pur (format : BitVec 8) (v : BitVec 32) (σ : Store) : Pur Pr F.corralref1_lay [.int .u8 (BitVec.toNat format : Int), .int .u32 (BitVec.toNat v : Int)] σ (.tuple #[.int .u32 (BitVec.toNat ((corralref1_lay.v format v).1) : Int), .bool ((corralref1_lay.v format v).2)]) := fun K hK =>
  corralref1_lay.ok (corralref1_lay.m_v (fun r => K (.tuple #[.int .u32 (BitVec.toNat r.1 : Int), .bool r.2]) σ) format v (fun _ h => h) hK)

/-! ### corralref1_reg -/
def corralref1_reg.v (n_ : Int) : Bool :=
  bif (decide (n_ ≥ 0)) then
    (decide (n_ ≤ 31))
  else
    false
theorem corralref1_reg.m_v {K : Value → Store → Prop} {σ : Store} (F : Bool → Prop) (n_ : Int) (hk : ∀ r, F r → K (.bool r) σ) (hF : F (corralref1_reg.v n_)) : corralref1_reg.m K n_ σ := by
  unfold corralref1_reg.m
  unfold corralref1_reg.v at hF
  try dsimp only at hF
  refine cond_v (F := F) (rfl) hF (fun h hF => ?_) (fun h hF => ?_)
  · skip
    exact hk _ hF
  · skip
    exact hk _ hF
theorem corralref1_reg.pur (n_ : Int) (σ : Store) : Pur Pr F.corralref1_reg [.int .i64 n_] σ (.bool ((corralref1_reg.v n_))) := fun K hK =>
  corralref1_reg.ok (corralref1_reg.m_v (fun r => K (.bool r) σ) n_ (fun _ h => h) hK)

/-! ### corralref1_word -/
def corralref1_word.v11 (w : BitVec 32) (r0 : Int) (r1 : ByteArray) (r2 : BitVec 32) (r3 : BitVec 32) (r4 : BitVec 32) (r5 : Bool) (r6 : Bool) (r7 : BitVec 8) (r8 : Bool) (r9 : Bool) (r10 : Bool) (r11 : Bool) (r12 : BitVec 32) (r13 : Bool) (i0 : Int) (i1 : Int) (i2 : Int) (i3 : Int) (i4 : Int) (i5 : BitVec 32) (i6 : Bool) (i7 : Bool) : BitVec 32 :=
  let c1 := corralref1_lay.v r7 i5
  (((((w ||| c1.1) ||| ((BitVec.ofInt 32 i1) <<< 7)) ||| ((BitVec.ofInt 32 i2) <<< 15)) ||| ((BitVec.ofInt 32 i3) <<< 20)) ||| ((BitVec.ofInt 32 i4) <<< 20))
theorem corralref1_word.j11_v {K : Value → Store → Prop} {σ : Store} (F : (BitVec 32) → Prop) (w : BitVec 32) (r0 : Int) (r1 : ByteArray) (r2 : BitVec 32) (r3 : BitVec 32) (r4 : BitVec 32) (r5 : Bool) (r6 : Bool) (r7 : BitVec 8) (r8 : Bool) (r9 : Bool) (r10 : Bool) (r11 : Bool) (r12 : BitVec 32) (r13 : Bool) (i0 : Int) (i1 : Int) (i2 : Int) (i3 : Int) (i4 : Int) (i5 : BitVec 32) (i6 : Bool) (i7 : Bool) (hk : ∀ r, F r → K (.int .u32 (BitVec.toNat r : Int)) σ) (hF : F (corralref1_word.v11 w r0 r1 r2 r3 r4 r5 r6 r7 r8 r9 r10 r11 r12 r13 i0 i1 i2 i3 i4 i5 i6 i7)) : corralref1_word.j11 K (BitVec.toNat w : Int) r0 r1 (BitVec.toNat r2 : Int) (BitVec.toNat r3 : Int) (BitVec.toNat r4 : Int) r5 r6 (BitVec.toNat r7 : Int) r8 r9 r10 r11 (BitVec.toNat r12 : Int) r13 i0 i1 i2 i3 i4 (BitVec.toNat i5 : Int) i6 i7 σ := by
  unfold corralref1_word.j11
  unfold corralref1_word.v11 at hF
  try dsimp only at hF
  refine Pur.use (corralref1_lay.pur r7 i5 σ) (rfl) ⟨_, _, rfl, ?_⟩
  exact Eq.mp (by simp only [or_u32, shl_u32, Int.toNat_natCast, Int.reduceToNat, wrap_u32, ofInt_toNat, ofInt_toNat', ofInt_toInt, BitVec.setWidth_eq, lit_u, BitVec.reduceOfInt, BitVec.reduceToNat, Nat.reducePow, Nat.reduceMod, Int.cast_ofNat_Int, Int.natCast_zero, Int.natCast_one, Int.reduceLT, Int.reduceLE, Int.reducePow, and_self, Int.zero_sub, BitVec.zero_sub]) (hk _ hF)
def corralref1_word.v8 (w : BitVec 32) (r0 : Int) (r1 : ByteArray) (r2 : BitVec 32) (r3 : BitVec 32) (r4 : BitVec 32) (r5 : Bool) (r6 : Bool) (r7 : BitVec 8) (r8 : Bool) (r9 : Bool) (r10 : Bool) (r11 : Bool) (r12 : BitVec 32) (r13 : Bool) (i0 : Int) (i1 : Int) (i2 : Int) (i3 : Int) (i4 : Int) (i5 : BitVec 32) (i6 : Bool) (i7 : Bool) : BitVec 32 :=
  bif i7 then
    corralref1_word.v11 (w ||| 33554432#32) r0 r1 r2 r3 r4 r5 r6 r7 r8 r9 r10 r11 r12 r13 i0 i1 i2 i3 i4 i5 i6 i7
  else
    corralref1_word.v11 w r0 r1 r2 r3 r4 r5 r6 r7 r8 r9 r10 r11 r12 r13 i0 i1 i2 i3 i4 i5 i6 i7
theorem corralref1_word.j8_v {K : Value → Store → Prop} {σ : Store} (F : (BitVec 32) → Prop) (w : BitVec 32) (r0 : Int) (r1 : ByteArray) (r2 : BitVec 32) (r3 : BitVec 32) (r4 : BitVec 32) (r5 : Bool) (r6 : Bool) (r7 : BitVec 8) (r8 : Bool) (r9 : Bool) (r10 : Bool) (r11 : Bool) (r12 : BitVec 32) (r13 : Bool) (i0 : Int) (i1 : Int) (i2 : Int) (i3 : Int) (i4 : Int) (i5 : BitVec 32) (i6 : Bool) (i7 : Bool) (hk : ∀ r, F r → K (.int .u32 (BitVec.toNat r : Int)) σ) (hF : F (corralref1_word.v8 w r0 r1 r2 r3 r4 r5 r6 r7 r8 r9 r10 r11 r12 r13 i0 i1 i2 i3 i4 i5 i6 i7)) : corralref1_word.j8 K (BitVec.toNat w : Int) r0 r1 (BitVec.toNat r2 : Int) (BitVec.toNat r3 : Int) (BitVec.toNat r4 : Int) r5 r6 (BitVec.toNat r7 : Int) r8 r9 r10 r11 (BitVec.toNat r12 : Int) r13 i0 i1 i2 i3 i4 (BitVec.toNat i5 : Int) i6 i7 σ := by
  unfold corralref1_word.j8
  unfold corralref1_word.v8 at hF
  try dsimp only at hF
  refine cond_v (F := F) (rfl) hF (fun h hF => ?_) (fun h hF => ?_)
  · skip
    exact hopI (Eq.mp (by simp only [or_u32, ofInt_toNat, ofInt_toNat', ofInt_toInt, BitVec.setWidth_eq, lit_u, BitVec.reduceOfInt, BitVec.reduceToNat, Nat.reducePow, Nat.reduceMod, Int.cast_ofNat_Int, Int.natCast_zero, Int.natCast_one, Int.reduceLT, Int.reduceLE, Int.reducePow, and_self, Int.zero_sub, BitVec.zero_sub]) (corralref1_word.j11_v F (w ||| 33554432#32) r0 r1 r2 r3 r4 r5 r6 r7 r8 r9 r10 r11 r12 r13 i0 i1 i2 i3 i4 i5 i6 i7 hk hF))
  · skip
    exact hopI (corralref1_word.j11_v F w r0 r1 r2 r3 r4 r5 r6 r7 r8 r9 r10 r11 r12 r13 i0 i1 i2 i3 i4 i5 i6 i7 hk hF)
def corralref1_word.v (r0 : Int) (r1 : ByteArray) (r2 : BitVec 32) (r3 : BitVec 32) (r4 : BitVec 32) (r5 : Bool) (r6 : Bool) (r7 : BitVec 8) (r8 : Bool) (r9 : Bool) (r10 : Bool) (r11 : Bool) (r12 : BitVec 32) (r13 : Bool) (i0 : Int) (i1 : Int) (i2 : Int) (i3 : Int) (i4 : Int) (i5 : BitVec 32) (i6 : Bool) (i7 : Bool) : BitVec 32 :=
  bif (r12 != 0#32) then
    r12
  else
    bif r13 then
      bif i6 then
        corralref1_word.v8 (((r2 ||| (r3 <<< 12)) ||| (r4 <<< 27)) ||| 67108864#32) r0 r1 r2 r3 r4 r5 r6 r7 r8 r9 r10 r11 r12 r13 i0 i1 i2 i3 i4 i5 i6 i7
      else
        corralref1_word.v8 ((r2 ||| (r3 <<< 12)) ||| (r4 <<< 27)) r0 r1 r2 r3 r4 r5 r6 r7 r8 r9 r10 r11 r12 r13 i0 i1 i2 i3 i4 i5 i6 i7
    else
      corralref1_word.v11 ((r2 ||| (r3 <<< 12)) ||| (r4 <<< 25)) r0 r1 r2 r3 r4 r5 r6 r7 r8 r9 r10 r11 r12 r13 i0 i1 i2 i3 i4 i5 i6 i7
theorem corralref1_word.m_v {K : Value → Store → Prop} {σ : Store} (F : (BitVec 32) → Prop) (r0 : Int) (r1 : ByteArray) (r2 : BitVec 32) (r3 : BitVec 32) (r4 : BitVec 32) (r5 : Bool) (r6 : Bool) (r7 : BitVec 8) (r8 : Bool) (r9 : Bool) (r10 : Bool) (r11 : Bool) (r12 : BitVec 32) (r13 : Bool) (i0 : Int) (i1 : Int) (i2 : Int) (i3 : Int) (i4 : Int) (i5 : BitVec 32) (i6 : Bool) (i7 : Bool) (hk : ∀ r, F r → K (.int .u32 (BitVec.toNat r : Int)) σ) (hF : F (corralref1_word.v r0 r1 r2 r3 r4 r5 r6 r7 r8 r9 r10 r11 r12 r13 i0 i1 i2 i3 i4 i5 i6 i7)) : corralref1_word.m K r0 r1 (BitVec.toNat r2 : Int) (BitVec.toNat r3 : Int) (BitVec.toNat r4 : Int) r5 r6 (BitVec.toNat r7 : Int) r8 r9 r10 r11 (BitVec.toNat r12 : Int) r13 i0 i1 i2 i3 i4 (BitVec.toNat i5 : Int) i6 i7 σ := by
  unfold corralref1_word.m
  unfold corralref1_word.v at hF
  try dsimp only at hF
  refine cond_v (F := F) (by simp only [bne_nat, bne_lit, ofInt_toNat, ofInt_toNat', ofInt_toInt, BitVec.setWidth_eq, lit_u, BitVec.reduceOfInt, BitVec.reduceToNat, Nat.reducePow, Nat.reduceMod, Int.cast_ofNat_Int, Int.natCast_zero, Int.natCast_one, Int.reduceLT, Int.reduceLE, Int.reducePow, and_self, Int.zero_sub, BitVec.zero_sub]) hF (fun h hF => ?_) (fun h hF => ?_)
  · skip
    exact hk _ hF
  · skip
    refine cond_v (F := F) (rfl) hF (fun h hF => ?_) (fun h hF => ?_)
    · skip
      refine cond_v (F := F) (rfl) hF (fun h hF => ?_) (fun h hF => ?_)
      · skip
        exact hopI (Eq.mp (by simp only [or_u32, shl_u32, Int.toNat_natCast, Int.reduceToNat, ofInt_toNat, ofInt_toNat', ofInt_toInt, BitVec.setWidth_eq, lit_u, BitVec.reduceOfInt, BitVec.reduceToNat, Nat.reducePow, Nat.reduceMod, Int.cast_ofNat_Int, Int.natCast_zero, Int.natCast_one, Int.reduceLT, Int.reduceLE, Int.reducePow, and_self, Int.zero_sub, BitVec.zero_sub]) (corralref1_word.j8_v F (((r2 ||| (r3 <<< 12)) ||| (r4 <<< 27)) ||| 67108864#32) r0 r1 r2 r3 r4 r5 r6 r7 r8 r9 r10 r11 r12 r13 i0 i1 i2 i3 i4 i5 i6 i7 hk hF))
      · skip
        exact hopI (Eq.mp (by simp only [or_u32, shl_u32, Int.toNat_natCast, Int.reduceToNat, ofInt_toNat, ofInt_toNat', ofInt_toInt, BitVec.setWidth_eq, lit_u, BitVec.reduceOfInt, BitVec.reduceToNat, Nat.reducePow, Nat.reduceMod, Int.cast_ofNat_Int, Int.natCast_zero, Int.natCast_one, Int.reduceLT, Int.reduceLE, Int.reducePow, and_self, Int.zero_sub, BitVec.zero_sub]) (corralref1_word.j8_v F ((r2 ||| (r3 <<< 12)) ||| (r4 <<< 27)) r0 r1 r2 r3 r4 r5 r6 r7 r8 r9 r10 r11 r12 r13 i0 i1 i2 i3 i4 i5 i6 i7 hk hF))
    · skip
      exact hopI (Eq.mp (by simp only [or_u32, shl_u32, Int.toNat_natCast, Int.reduceToNat, ofInt_toNat, ofInt_toNat', ofInt_toInt, BitVec.setWidth_eq, lit_u, BitVec.reduceOfInt, BitVec.reduceToNat, Nat.reducePow, Nat.reduceMod, Int.cast_ofNat_Int, Int.natCast_zero, Int.natCast_one, Int.reduceLT, Int.reduceLE, Int.reducePow, and_self, Int.zero_sub, BitVec.zero_sub]) (corralref1_word.j11_v F ((r2 ||| (r3 <<< 12)) ||| (r4 <<< 25)) r0 r1 r2 r3 r4 r5 r6 r7 r8 r9 r10 r11 r12 r13 i0 i1 i2 i3 i4 i5 i6 i7 hk hF))
theorem corralref1_word.pur (r0 : Int) (r1 : ByteArray) (r2 : BitVec 32) (r3 : BitVec 32) (r4 : BitVec 32) (r5 : Bool) (r6 : Bool) (r7 : BitVec 8) (r8 : Bool) (r9 : Bool) (r10 : Bool) (r11 : Bool) (r12 : BitVec 32) (r13 : Bool) (i0 : Int) (i1 : Int) (i2 : Int) (i3 : Int) (i4 : Int) (i5 : BitVec 32) (i6 : Bool) (i7 : Bool) (σ : Store) : Pur Pr F.corralref1_word [.agg #[.int .i64 r0, .string r1, .int .u32 (BitVec.toNat r2 : Int), .int .u32 (BitVec.toNat r3 : Int), .int .u32 (BitVec.toNat r4 : Int), .bool r5, .bool r6, .int .u8 (BitVec.toNat r7 : Int), .bool r8, .bool r9, .bool r10, .bool r11, .int .u32 (BitVec.toNat r12 : Int), .bool r13], .agg #[.int .i64 i0, .int .i64 i1, .int .i64 i2, .int .i64 i3, .int .i64 i4, .int .u32 (BitVec.toNat i5 : Int), .bool i6, .bool i7]] σ (.int .u32 (BitVec.toNat ((corralref1_word.v r0 r1 r2 r3 r4 r5 r6 r7 r8 r9 r10 r11 r12 r13 i0 i1 i2 i3 i4 i5 i6 i7)) : Int)) := fun K hK =>
  corralref1_word.ok (corralref1_word.m_v (fun r => K (.int .u32 (BitVec.toNat r : Int)) σ) r0 r1 r2 r3 r4 r5 r6 r7 r8 r9 r10 r11 r12 r13 i0 i1 i2 i3 i4 i5 i6 i7 (fun _ h => h) hK)

/-! ### corralref1_Kind -/
def corralref1_Kind.v12 (op : Int) (t58 : Bool) : Int :=
  bif t58 then
    6
  else
    bif (decide (op ≥ 1)) then
      bif (decide (op ≤ 69)) then
        7
      else
        0
    else
      0
theorem corralref1_Kind.j12_v {K : Value → Store → Prop} {σ : Store} (F : Int → Prop) (op : Int) (t58 : Bool) (hk : ∀ r, F r → K (.int .i64 r) σ) (hF : F (corralref1_Kind.v12 op t58)) : corralref1_Kind.j12 K op t58 σ := by
  unfold corralref1_Kind.j12
  unfold corralref1_Kind.v12 at hF
  try dsimp only at hF
  refine cond_v (F := F) (rfl) hF (fun h hF => ?_) (fun h hF => ?_)
  · skip
    exact hk _ hF
  · skip
    refine cond_v (F := F) (rfl) hF (fun h hF => ?_) (fun h hF => ?_)
    · skip
      refine cond_v (F := F) (rfl) hF (fun h hF => ?_) (fun h hF => ?_)
      · skip
        exact hk _ hF
      · skip
        exact hk _ hF
    · skip
      exact hk _ hF
def corralref1_Kind.v10 (op : Int) (t51 : Bool) : Int :=
  bif t51 then
    5
  else
    bif (decide (op ≥ 60)) then
      corralref1_Kind.v12 op (decide (op ≤ 69))
    else
      corralref1_Kind.v12 op false
theorem corralref1_Kind.j10_v {K : Value → Store → Prop} {σ : Store} (F : Int → Prop) (op : Int) (t51 : Bool) (hk : ∀ r, F r → K (.int .i64 r) σ) (hF : F (corralref1_Kind.v10 op t51)) : corralref1_Kind.j10 K op t51 σ := by
  unfold corralref1_Kind.j10
  unfold corralref1_Kind.v10 at hF
  try dsimp only at hF
  refine cond_v (F := F) (rfl) hF (fun h hF => ?_) (fun h hF => ?_)
  · skip
    exact hk _ hF
  · skip
    refine cond_v (F := F) (rfl) hF (fun h hF => ?_) (fun h hF => ?_)
    · skip
      exact hopI (corralref1_Kind.j12_v F op (decide (op ≤ 69)) hk hF)
    · skip
      exact hopI (corralref1_Kind.j12_v F op false hk hF)
def corralref1_Kind.v8 (op : Int) (t40 : Bool) : Int :=
  bif t40 then
    4
  else
    bif (decide (op ≥ 16)) then
      corralref1_Kind.v10 op (decide (op ≤ 18))
    else
      corralref1_Kind.v10 op false
theorem corralref1_Kind.j8_v {K : Value → Store → Prop} {σ : Store} (F : Int → Prop) (op : Int) (t40 : Bool) (hk : ∀ r, F r → K (.int .i64 r) σ) (hF : F (corralref1_Kind.v8 op t40)) : corralref1_Kind.j8 K op t40 σ := by
  unfold corralref1_Kind.j8
  unfold corralref1_Kind.v8 at hF
  try dsimp only at hF
  refine cond_v (F := F) (rfl) hF (fun h hF => ?_) (fun h hF => ?_)
  · skip
    exact hk _ hF
  · skip
    refine cond_v (F := F) (rfl) hF (fun h hF => ?_) (fun h hF => ?_)
    · skip
      exact hopI (corralref1_Kind.j10_v F op (decide (op ≤ 18)) hk hF)
    · skip
      exact hopI (corralref1_Kind.j10_v F op false hk hF)
def corralref1_Kind.v6 (op : Int) (t33 : Bool) : Int :=
  bif t33 then
    3
  else
    bif (decide (op ≥ 11)) then
      bif (decide (op ≤ 15)) then
        corralref1_Kind.v8 op true
      else
        corralref1_Kind.v8 op (op == 59)
    else
      corralref1_Kind.v8 op (op == 59)
theorem corralref1_Kind.j6_v {K : Value → Store → Prop} {σ : Store} (F : Int → Prop) (op : Int) (t33 : Bool) (hk : ∀ r, F r → K (.int .i64 r) σ) (hF : F (corralref1_Kind.v6 op t33)) : corralref1_Kind.j6 K op t33 σ := by
  unfold corralref1_Kind.j6
  unfold corralref1_Kind.v6 at hF
  try dsimp only at hF
  refine cond_v (F := F) (rfl) hF (fun h hF => ?_) (fun h hF => ?_)
  · skip
    exact hk _ hF
  · skip
    refine cond_v (F := F) (rfl) hF (fun h hF => ?_) (fun h hF => ?_)
    · skip
      refine cond_v (F := F) (rfl) hF (fun h hF => ?_) (fun h hF => ?_)
      · skip
        exact hopI (corralref1_Kind.j8_v F op true hk hF)
      · skip
        exact hopI (corralref1_Kind.j8_v F op (op == 59) hk hF)
    · skip
      exact hopI (corralref1_Kind.j8_v F op (op == 59) hk hF)
def corralref1_Kind.v4 (op : Int) (t26 : Bool) : Int :=
  bif t26 then
    2
  else
    bif (decide (op ≥ 5)) then
      corralref1_Kind.v6 op (decide (op ≤ 10))
    else
      corralref1_Kind.v6 op false
theorem corralref1_Kind.j4_v {K : Value → Store → Prop} {σ : Store} (F : Int → Prop) (op : Int) (t26 : Bool) (hk : ∀ r, F r → K (.int .i64 r) σ) (hF : F (corralref1_Kind.v4 op t26)) : corralref1_Kind.j4 K op t26 σ := by
  unfold corralref1_Kind.j4
  unfold corralref1_Kind.v4 at hF
  try dsimp only at hF
  refine cond_v (F := F) (rfl) hF (fun h hF => ?_) (fun h hF => ?_)
  · skip
    exact hk _ hF
  · skip
    refine cond_v (F := F) (rfl) hF (fun h hF => ?_) (fun h hF => ?_)
    · skip
      exact hopI (corralref1_Kind.j6_v F op (decide (op ≤ 10)) hk hF)
    · skip
      exact hopI (corralref1_Kind.j6_v F op false hk hF)
def corralref1_Kind.v2 (op : Int) (t3 : Bool) : Int :=
  bif t3 then
    1
  else
    bif (op == 3) then
      corralref1_Kind.v4 op true
    else
      corralref1_Kind.v4 op (op == 4)
theorem corralref1_Kind.j2_v {K : Value → Store → Prop} {σ : Store} (F : Int → Prop) (op : Int) (t3 : Bool) (hk : ∀ r, F r → K (.int .i64 r) σ) (hF : F (corralref1_Kind.v2 op t3)) : corralref1_Kind.j2 K op t3 σ := by
  unfold corralref1_Kind.j2
  unfold corralref1_Kind.v2 at hF
  try dsimp only at hF
  refine cond_v (F := F) (rfl) hF (fun h hF => ?_) (fun h hF => ?_)
  · skip
    exact hk _ hF
  · skip
    refine cond_v (F := F) (rfl) hF (fun h hF => ?_) (fun h hF => ?_)
    · skip
      exact hopI (corralref1_Kind.j4_v F op true hk hF)
    · skip
      exact hopI (corralref1_Kind.j4_v F op (op == 4) hk hF)
def corralref1_Kind.v (op : Int) : Int :=
  bif (op == 1) then
    corralref1_Kind.v2 op true
  else
    bif (op == 2) then
      corralref1_Kind.v2 op true
    else
      bif (decide (op ≥ 19)) then
        bif (decide (op ≤ 37)) then
          corralref1_Kind.v2 op true
        else
          bif (decide (op ≥ 51)) then
            corralref1_Kind.v2 op (decide (op ≤ 58))
          else
            corralref1_Kind.v2 op false
      else
        bif (decide (op ≥ 51)) then
          corralref1_Kind.v2 op (decide (op ≤ 58))
        else
          corralref1_Kind.v2 op false
theorem corralref1_Kind.m_v {K : Value → Store → Prop} {σ : Store} (F : Int → Prop) (op : Int) (hk : ∀ r, F r → K (.int .i64 r) σ) (hF : F (corralref1_Kind.v op)) : corralref1_Kind.m K op σ := by
  unfold corralref1_Kind.m
  unfold corralref1_Kind.v at hF
  try dsimp only at hF
  refine cond_v (F := F) (rfl) hF (fun h hF => ?_) (fun h hF => ?_)
  · skip
    exact hopI (corralref1_Kind.j2_v F op true hk hF)
  · skip
    refine cond_v (F := F) (rfl) hF (fun h hF => ?_) (fun h hF => ?_)
    · skip
      exact hopI (corralref1_Kind.j2_v F op true hk hF)
    · skip
      refine cond_v (F := F) (rfl) hF (fun h hF => ?_) (fun h hF => ?_)
      · skip
        refine cond_v (F := F) (rfl) hF (fun h hF => ?_) (fun h hF => ?_)
        · skip
          exact hopI (corralref1_Kind.j2_v F op true hk hF)
        · skip
          refine cond_v (F := F) (rfl) hF (fun h hF => ?_) (fun h hF => ?_)
          · skip
            exact hopI (corralref1_Kind.j2_v F op (decide (op ≤ 58)) hk hF)
          · skip
            exact hopI (corralref1_Kind.j2_v F op false hk hF)
      · skip
        refine cond_v (F := F) (rfl) hF (fun h hF => ?_) (fun h hF => ?_)
        · skip
          exact hopI (corralref1_Kind.j2_v F op (decide (op ≤ 58)) hk hF)
        · skip
          exact hopI (corralref1_Kind.j2_v F op false hk hF)
theorem corralref1_Kind.pur (op : Int) (σ : Store) : Pur Pr F.corralref1_Kind [.int .i64 op] σ (.int .i64 ((corralref1_Kind.v op))) := fun K hK =>
  corralref1_Kind.ok (corralref1_Kind.m_v (fun r => K (.int .i64 r) σ) op (fun _ h => h) hK)

/-! ### corralref1_whole -/
def corralref1_whole.v (op : Int) (name : ByteArray) (w : BitVec 32) : Int × ByteArray × BitVec 32 × BitVec 32 × BitVec 32 × Bool × Bool × BitVec 8 × Bool × Bool × Bool × Bool × BitVec 32 × Bool :=
  (op, name, 0#32, 0#32, 0#32, false, false, 0#8, false, false, false, false, w, false)
theorem corralref1_whole.m_v {K : Value → Store → Prop} {σ : Store} (F : (Int × ByteArray × BitVec 32 × BitVec 32 × BitVec 32 × Bool × Bool × BitVec 8 × Bool × Bool × Bool × Bool × BitVec 32 × Bool) → Prop) (op : Int) (name : ByteArray) (w : BitVec 32) (hk : ∀ r, F r → K (.agg #[.int .i64 r.1, .string r.2.1, .int .u32 (BitVec.toNat r.2.2.1 : Int), .int .u32 (BitVec.toNat r.2.2.2.1 : Int), .int .u32 (BitVec.toNat r.2.2.2.2.1 : Int), .bool r.2.2.2.2.2.1, .bool r.2.2.2.2.2.2.1, .int .u8 (BitVec.toNat r.2.2.2.2.2.2.2.1 : Int), .bool r.2.2.2.2.2.2.2.2.1, .bool r.2.2.2.2.2.2.2.2.2.1, .bool r.2.2.2.2.2.2.2.2.2.2.1, .bool r.2.2.2.2.2.2.2.2.2.2.2.1, .int .u32 (BitVec.toNat r.2.2.2.2.2.2.2.2.2.2.2.2.1 : Int), .bool r.2.2.2.2.2.2.2.2.2.2.2.2.2]) σ) (hF : F (corralref1_whole.v op name w)) : corralref1_whole.m K op name (BitVec.toNat w : Int) σ := by
  unfold corralref1_whole.m
  unfold corralref1_whole.v at hF
  try dsimp only at hF
  exact hk _ hF
theorem corralref1_whole.pur (op : Int) (name : ByteArray) (w : BitVec 32) (σ : Store) : Pur Pr F.corralref1_whole [.int .i64 op, .string name, .int .u32 (BitVec.toNat w : Int)] σ (.agg #[.int .i64 ((corralref1_whole.v op name w).1), .string ((corralref1_whole.v op name w).2.1), .int .u32 (BitVec.toNat ((corralref1_whole.v op name w).2.2.1) : Int), .int .u32 (BitVec.toNat ((corralref1_whole.v op name w).2.2.2.1) : Int), .int .u32 (BitVec.toNat ((corralref1_whole.v op name w).2.2.2.2.1) : Int), .bool ((corralref1_whole.v op name w).2.2.2.2.2.1), .bool ((corralref1_whole.v op name w).2.2.2.2.2.2.1), .int .u8 (BitVec.toNat ((corralref1_whole.v op name w).2.2.2.2.2.2.2.1) : Int), .bool ((corralref1_whole.v op name w).2.2.2.2.2.2.2.2.1), .bool ((corralref1_whole.v op name w).2.2.2.2.2.2.2.2.2.1), .bool ((corralref1_whole.v op name w).2.2.2.2.2.2.2.2.2.2.1), .bool ((corralref1_whole.v op name w).2.2.2.2.2.2.2.2.2.2.2.1), .int .u32 (BitVec.toNat ((corralref1_whole.v op name w).2.2.2.2.2.2.2.2.2.2.2.2.1) : Int), .bool ((corralref1_whole.v op name w).2.2.2.2.2.2.2.2.2.2.2.2.2)]) := fun K hK =>
  corralref1_whole.ok (corralref1_whole.m_v (fun r => K (.agg #[.int .i64 r.1, .string r.2.1, .int .u32 (BitVec.toNat r.2.2.1 : Int), .int .u32 (BitVec.toNat r.2.2.2.1 : Int), .int .u32 (BitVec.toNat r.2.2.2.2.1 : Int), .bool r.2.2.2.2.2.1, .bool r.2.2.2.2.2.2.1, .int .u8 (BitVec.toNat r.2.2.2.2.2.2.2.1 : Int), .bool r.2.2.2.2.2.2.2.2.1, .bool r.2.2.2.2.2.2.2.2.2.1, .bool r.2.2.2.2.2.2.2.2.2.2.1, .bool r.2.2.2.2.2.2.2.2.2.2.2.1, .int .u32 (BitVec.toNat r.2.2.2.2.2.2.2.2.2.2.2.2.1 : Int), .bool r.2.2.2.2.2.2.2.2.2.2.2.2.2]) σ) op name w (fun _ h => h) hK)

/-! ### slices_Index -/
def slices_Index.v7  : Int :=
  (-1)
theorem slices_Index.j7_v {K : Value → Store → Prop} {σ : Store} (F : Int → Prop)  (hk : ∀ r, F r → K (.int .i64 r) σ) (hF : F (slices_Index.v7 )) : slices_Index.j7 K  σ := by
  unfold slices_Index.j7
  unfold slices_Index.v7 at hF
  try dsimp only at hF
  exact hk _ hF
def slices_Index.bv2 (sA : Option Addr) (sN : Nat) (sC : Nat) (v : Int) (t7 : Int) (t8 : Int) (t15 : Int) : Int ⊕ (Int × Int × Int) :=
  bif (v == t15) then
    .inl t8
  else
    .inr (v, t7, (IntKind.wrap .i64 (t8 + 1)))
theorem slices_Index.b2_v {K : Value → Store → Prop} {σ : Store} {rr2 : slices_Index.R2} (F : (Int ⊕ (Int × Int × Int)) → Prop) (sA : Option Addr) (sN : Nat) (sC : Nat) (v : Int) (t7 : Int) (t8 : Int) (t15 : Int) (hk : ∀ r, F (.inl r) → K (.int .i64 r) σ) (hrr : ∀ s, F (.inr s) → rr2 sA sN sC s.1 s.2.1 s.2.2 σ) (hc : ((decide (t8 < t7))) = true) (hr0 : ∀ Body : Nat → Nat → Prop, (∀ B O, cellAt σ B (O + t8.toNat * 1) = some (.int .i64 t15) → Body B O) → Req ((decide (0 ≤ t8)) && (decide (t8 < ((sN : Nat) : Int)))) (PtrNN sA Body)) (hF : F (slices_Index.bv2 sA sN sC v t7 t8 t15)) : slices_Index.b2 K rr2 sA sN sC v t7 t8 σ := by
  unfold slices_Index.b2
  unfold slices_Index.bv2 at hF
  try dsimp only at hF
  refine cond_t (hc) ?_
  refine hr0 _ fun B O hc => ⟨_, hc, ?_⟩
  refine cond_v (F := F) (rfl) hF (fun h hF => ?_) (fun h hF => ?_)
  · skip
    exact hk _ hF
  · skip
    exact hopI (hrr _ hF)

/-! ### word_Pack -/
def word_Pack.v6 (w : BitVec 32) (t6A : Option Addr) (t6N : Nat) (t6C : Nat) (t7 : Int) (t8 : Int) (t19 : Bool) (f0 : Int) (f1 : Int) (f2 : BitVec 32) : BitVec 32 ⊕ (BitVec 32 × Int × Int) :=
  bif t19 then
    let c1 := word_mask.v f1
    .inr ((w ||| ((f2 &&& c1) <<< (Int.toNat f0))), t7, (IntKind.wrap .i64 (t8 + 1)))
  else
    .inr (w, t7, (IntKind.wrap .i64 (t8 + 1)))
theorem word_Pack.j6_v {K : Value → Store → Prop} {σ : Store} {rr3 : word_Pack.R3} (F : (BitVec 32 ⊕ (BitVec 32 × Int × Int)) → Prop) (w : BitVec 32) (t6A : Option Addr) (t6N : Nat) (t6C : Nat) (t7 : Int) (t8 : Int) (t19 : Bool) (f0 : Int) (f1 : Int) (f2 : BitVec 32) (hk : ∀ r, F (.inl r) → K (.int .u32 (BitVec.toNat r : Int)) σ) (hrr : ∀ s, F (.inr s) → rr3 (BitVec.toNat s.1 : Int) t6A t6N t6C s.2.1 s.2.2 σ) (hp : t19 = true → 0 ≤ f0) (hF : F (word_Pack.v6 w t6A t6N t6C t7 t8 t19 f0 f1 f2)) : word_Pack.j6 K rr3 (BitVec.toNat w : Int) t6A t6N t6C t7 t8 t19 f0 f1 (BitVec.toNat f2 : Int) σ := by
  unfold word_Pack.j6
  unfold word_Pack.v6 at hF
  try dsimp only at hF
  refine cond_v (F := F) (rfl) hF (fun h hF => ?_) (fun h hF => ?_)
  · skip
    refine Pur.use (word_mask.pur f1 σ) (rfl) ⟨_, rfl, ?_⟩
    refine rq (by (try clear hF); (try clear hk); (try clear hrr); (try simp only [IntKind.wrap_i64, wrap_u64_lit, decide_eq_true_eq, decide_eq_false_iff_not, Bool.and_eq_true, bne_iff_ne, beq_iff_eq, Bool.not_eq_true', Bool.not_eq_false', ne_eq, beq_eq_false_iff_ne, Int.not_lt, Int.not_le, Bool.false_eq_true, false_implies, true_implies] at *) <;> first | omega | (split <;> omega) | (simp_all; done) | (simp_all; omega)) ?_
    exact hopI (Eq.mp (by simp only [or_u32, shl_u32, Int.toNat_natCast, Int.reduceToNat, and_u32, toI64_u32, toI64_u8, toI64_u64, wrap_i64_toInt32, BitVec.ofInt_add, ofInt_toNat, ofInt_toNat', ofInt_toInt, BitVec.setWidth_eq, lit_u, BitVec.reduceOfInt, BitVec.reduceToNat, Nat.reducePow, Nat.reduceMod, Int.cast_ofNat_Int, Int.natCast_zero, Int.natCast_one, Int.reduceLT, Int.reduceLE, Int.reducePow, and_self, Int.zero_sub, BitVec.zero_sub]) (hrr _ hF))
  · skip
    exact hopI (hrr _ hF)
def word_Pack.v8 (w : BitVec 32) : BitVec 32 :=
  w
theorem word_Pack.j8_v {K : Value → Store → Prop} {σ : Store} (F : (BitVec 32) → Prop) (w : BitVec 32) (hk : ∀ r, F r → K (.int .u32 (BitVec.toNat r : Int)) σ) (hF : F (word_Pack.v8 w)) : word_Pack.j8 K (BitVec.toNat w : Int) σ := by
  unfold word_Pack.j8
  unfold word_Pack.v8 at hF
  try dsimp only at hF
  exact hk _ hF
def word_Pack.bv3 (w : BitVec 32) (t6A : Option Addr) (t6N : Nat) (t6C : Nat) (t7 : Int) (t8 : Int) (t110 : Int) (t111 : Int) (t112 : BitVec 32) : BitVec 32 ⊕ (BitVec 32 × Int × Int) :=
  bif (decide (t110 ≥ 0)) then
    word_Pack.v6 w t6A t6N t6C t7 t8 (decide (t110 < 32)) t110 t111 t112
  else
    word_Pack.v6 w t6A t6N t6C t7 t8 false t110 t111 t112
theorem word_Pack.b3_v {K : Value → Store → Prop} {σ : Store} {rr3 : word_Pack.R3} (F : (BitVec 32 ⊕ (BitVec 32 × Int × Int)) → Prop) (w : BitVec 32) (t6A : Option Addr) (t6N : Nat) (t6C : Nat) (t7 : Int) (t8 : Int) (t110 : Int) (t111 : Int) (t112 : BitVec 32) (hk : ∀ r, F (.inl r) → K (.int .u32 (BitVec.toNat r : Int)) σ) (hrr : ∀ s, F (.inr s) → rr3 (BitVec.toNat s.1 : Int) t6A t6N t6C s.2.1 s.2.2 σ) (hc : ((decide (t8 < t7))) = true) (hr0 : ∀ Body : Nat → Nat → Prop, (∀ B O, cellsAt σ B (O + t8.toNat * 3) 3 = some [.int .i64 t110, .int .i64 t111, .int .u32 (BitVec.toNat t112 : Int)] → Body B O) → Req ((decide (0 ≤ t8)) && (decide (t8 < ((t6N : Nat) : Int)))) (PtrNN t6A Body)) (hF : F (word_Pack.bv3 w t6A t6N t6C t7 t8 t110 t111 t112)) : word_Pack.b3 K rr3 (BitVec.toNat w : Int) t6A t6N t6C t7 t8 σ := by
  unfold word_Pack.b3
  unfold word_Pack.bv3 at hF
  try dsimp only at hF
  refine cond_t (hc) ?_
  refine hr0 _ fun B O hc => ⟨_, _, _, hc, ?_⟩
  refine cond_v (F := F) (rfl) hF (fun h hF => ?_) (fun h hF => ?_)
  · skip
    exact hopI (word_Pack.j6_v (rr3 := rr3) F w t6A t6N t6C t7 t8 (decide (t110 < 32)) t110 t111 t112 hk hrr (by (try clear hF); (try clear hk); (try clear hrr); (try simp only [IntKind.wrap_i64, wrap_u64_lit, decide_eq_true_eq, decide_eq_false_iff_not, Bool.and_eq_true, bne_iff_ne, beq_iff_eq, Bool.not_eq_true', Bool.not_eq_false', ne_eq, beq_eq_false_iff_ne, Int.not_lt, Int.not_le, Bool.false_eq_true, false_implies, true_implies] at *) <;> first | omega | (split <;> omega) | (simp_all; done) | (simp_all; omega)) hF)
  · skip
    exact hopI (word_Pack.j6_v (rr3 := rr3) F w t6A t6N t6C t7 t8 false t110 t111 t112 hk hrr (by (try clear hF); (try clear hk); (try clear hrr); (try simp only [IntKind.wrap_i64, wrap_u64_lit, decide_eq_true_eq, decide_eq_false_iff_not, Bool.and_eq_true, bne_iff_ne, beq_iff_eq, Bool.not_eq_true', Bool.not_eq_false', ne_eq, beq_eq_false_iff_ne, Int.not_lt, Int.not_le, Bool.false_eq_true, false_implies, true_implies] at *) <;> first | omega | (split <;> omega) | (simp_all; done) | (simp_all; omega)) hF)

/-! ### enc_Imm -/
def enc_Imm.v8 (n_ : Int) (x : BitVec 32) : BitVec 32 :=
  let c1 := word_Sign.v x n_
  c1
theorem enc_Imm.j8_v {K : Value → Store → Prop} {σ : Store} (F : (BitVec 32) → Prop) (n_ : Int) (x : BitVec 32) (hk : ∀ r, F r → K (.int .u32 (BitVec.toNat r : Int)) σ) (hF : F (enc_Imm.v8 n_ x)) : enc_Imm.j8 K n_ (BitVec.toNat x : Int) σ := by
  unfold enc_Imm.j8
  unfold enc_Imm.v8 at hF
  try dsimp only at hF
  refine Pur.use (word_Sign.pur x n_ σ) (rfl) ⟨_, rfl, ?_⟩
  exact hk _ hF
def enc_Imm.bv4 (w : BitVec 32) (n_ : Int) (x : BitVec 32) (t15A : Option Addr) (t15N : Nat) (t15C : Nat) (t16 : Int) (t17 : Int) (t200 : Int) (t201 : Int) (t202 : Int) : BitVec 32 ⊕ (BitVec 32 × Int × BitVec 32 × Int × Int) :=
  let c1 := word_Bits.v w t200 t201
  .inr (w, n_, (x ||| (c1 <<< (Int.toNat t202))), t16, (IntKind.wrap .i64 (t17 + 1)))
theorem enc_Imm.b4_v {K : Value → Store → Prop} {σ : Store} {rr4 : enc_Imm.R4} (F : (BitVec 32 ⊕ (BitVec 32 × Int × BitVec 32 × Int × Int)) → Prop) (w : BitVec 32) (n_ : Int) (x : BitVec 32) (t15A : Option Addr) (t15N : Nat) (t15C : Nat) (t16 : Int) (t17 : Int) (t200 : Int) (t201 : Int) (t202 : Int) (hk : ∀ r, F (.inl r) → K (.int .u32 (BitVec.toNat r : Int)) σ) (hrr : ∀ s, F (.inr s) → rr4 (BitVec.toNat s.1 : Int) s.2.1 (BitVec.toNat s.2.2.1 : Int) t15A t15N t15C s.2.2.2.1 s.2.2.2.2 σ) (hp : 0 ≤ t202) (hc : ((decide (t17 < t16))) = true) (hr0 : ∀ Body : Nat → Nat → Prop, (∀ B O, cellsAt σ B (O + t17.toNat * 3) 3 = some [.int .i64 t200, .int .i64 t201, .int .i64 t202] → Body B O) → Req ((decide (0 ≤ t17)) && (decide (t17 < ((t15N : Nat) : Int)))) (PtrNN t15A Body)) (hF : F (enc_Imm.bv4 w n_ x t15A t15N t15C t16 t17 t200 t201 t202)) : enc_Imm.b4 K rr4 (BitVec.toNat w : Int) n_ (BitVec.toNat x : Int) t15A t15N t15C t16 t17 σ := by
  unfold enc_Imm.b4
  unfold enc_Imm.bv4 at hF
  try dsimp only at hF
  refine cond_t (hc) ?_
  refine hr0 _ fun B O hc => ⟨_, _, _, hc, ?_⟩
  refine Pur.use (word_Bits.pur w t200 t201 σ) (rfl) ⟨_, rfl, ?_⟩
  refine rq (by (try clear hF); (try clear hk); (try clear hrr); (try simp only [IntKind.wrap_i64, wrap_u64_lit, decide_eq_true_eq, decide_eq_false_iff_not, Bool.and_eq_true, bne_iff_ne, beq_iff_eq, Bool.not_eq_true', Bool.not_eq_false', ne_eq, beq_eq_false_iff_ne, Int.not_lt, Int.not_le, Bool.false_eq_true, false_implies, true_implies] at *) <;> first | omega | (split <;> omega) | (simp_all; done) | (simp_all; omega)) ?_
  exact hopI (Eq.mp (by simp only [or_u32, shl_u32, Int.toNat_natCast, Int.reduceToNat, toI64_u32, toI64_u8, toI64_u64, wrap_i64_toInt32, BitVec.ofInt_add, ofInt_toNat, ofInt_toNat', ofInt_toInt, BitVec.setWidth_eq, lit_u, BitVec.reduceOfInt, BitVec.reduceToNat, Nat.reducePow, Nat.reduceMod, Int.cast_ofNat_Int, Int.natCast_zero, Int.natCast_one, Int.reduceLT, Int.reduceLE, Int.reducePow, and_self, Int.zero_sub, BitVec.zero_sub]) (hrr _ hF))

/-! ### corralref1_Decode -/
def corralref1_Decode.v21 (w : BitVec 32) (lA : Option Addr) (lN : Nat) (lC : Nat) (k : Int) (t20 : Int) (t21 : Int) (t22 : Int) (t23 : Int) (t24 : Int) (t25 : BitVec 32) (t26 : Bool) (t27 : Bool) (r0 : Int) (r1 : ByteArray) (r2 : BitVec 32) (r3 : BitVec 32) (r4 : BitVec 32) (r5 : Bool) (r6 : Bool) (r7 : BitVec 8) (r8 : Bool) (r9 : Bool) (r10 : Bool) (r11 : Bool) (r12 : BitVec 32) (r13 : Bool) (i0 : Int) (i1 : Int) (i2 : Int) (i3 : Int) (i4 : Int) (i5 : BitVec 32) (i6 : Bool) (i7 : Bool) : (Int × Int × Int × Int × Int × BitVec 32 × Bool × Bool × Bool) ⊕ (BitVec 32 × Int × Int × Int × Int × Int × Int × BitVec 32 × Bool × Bool) :=
  let c1 := corralref1_imm.v r7 w
  let c2 := corralref1_word.v r0 r1 r2 r3 r4 r5 r6 r7 r8 r9 r10 r11 r12 r13 i0 i1 i2 i3 i4 c1 i6 i7
  bif (c2 == w) then
    .inl (i0, i1, i2, i3, i4, c1, i6, i7, true)
  else
    .inr (w, (IntKind.wrap .i64 (k + 1)), t20, t21, t22, t23, t24, t25, t26, t27)
theorem corralref1_Decode.j21_v {K : Value → Store → Prop} {σ : Store} {rr3 : corralref1_Decode.R3} (F : ((Int × Int × Int × Int × Int × BitVec 32 × Bool × Bool × Bool) ⊕ (BitVec 32 × Int × Int × Int × Int × Int × Int × BitVec 32 × Bool × Bool)) → Prop) (w : BitVec 32) (lA : Option Addr) (lN : Nat) (lC : Nat) (k : Int) (t20 : Int) (t21 : Int) (t22 : Int) (t23 : Int) (t24 : Int) (t25 : BitVec 32) (t26 : Bool) (t27 : Bool) (r0 : Int) (r1 : ByteArray) (r2 : BitVec 32) (r3 : BitVec 32) (r4 : BitVec 32) (r5 : Bool) (r6 : Bool) (r7 : BitVec 8) (r8 : Bool) (r9 : Bool) (r10 : Bool) (r11 : Bool) (r12 : BitVec 32) (r13 : Bool) (i0 : Int) (i1 : Int) (i2 : Int) (i3 : Int) (i4 : Int) (i5 : BitVec 32) (i6 : Bool) (i7 : Bool) (hk : ∀ r, F (.inl r) → K (.tuple #[.agg #[.int .i64 r.1, .int .i64 r.2.1, .int .i64 r.2.2.1, .int .i64 r.2.2.2.1, .int .i64 r.2.2.2.2.1, .int .u32 (BitVec.toNat r.2.2.2.2.2.1 : Int), .bool r.2.2.2.2.2.2.1, .bool r.2.2.2.2.2.2.2.1], .bool r.2.2.2.2.2.2.2.2]) σ) (hrr : ∀ s, F (.inr s) → rr3 (BitVec.toNat s.1 : Int) lA lN lC s.2.1 s.2.2.1 s.2.2.2.1 s.2.2.2.2.1 s.2.2.2.2.2.1 s.2.2.2.2.2.2.1 (BitVec.toNat s.2.2.2.2.2.2.2.1 : Int) s.2.2.2.2.2.2.2.2.1 s.2.2.2.2.2.2.2.2.2 σ) (hF : F (corralref1_Decode.v21 w lA lN lC k t20 t21 t22 t23 t24 t25 t26 t27 r0 r1 r2 r3 r4 r5 r6 r7 r8 r9 r10 r11 r12 r13 i0 i1 i2 i3 i4 i5 i6 i7)) : corralref1_Decode.j21 K rr3 (BitVec.toNat w : Int) lA lN lC k t20 t21 t22 t23 t24 (BitVec.toNat t25 : Int) t26 t27 r0 r1 (BitVec.toNat r2 : Int) (BitVec.toNat r3 : Int) (BitVec.toNat r4 : Int) r5 r6 (BitVec.toNat r7 : Int) r8 r9 r10 r11 (BitVec.toNat r12 : Int) r13 i0 i1 i2 i3 i4 (BitVec.toNat i5 : Int) i6 i7 σ := by
  unfold corralref1_Decode.j21
  unfold corralref1_Decode.v21 at hF
  try dsimp only at hF
  refine Pur.use (corralref1_imm.pur r7 w σ) (rfl) ⟨_, rfl, ?_⟩
  refine Pur.use (corralref1_word.pur r0 r1 r2 r3 r4 r5 r6 r7 r8 r9 r10 r11 r12 r13 i0 i1 i2 i3 i4 (corralref1_imm.v r7 w) i6 i7 σ) (rfl) ⟨_, rfl, ?_⟩
  refine cond_v (F := F) (by simp only [beq_nat, beq_lit, ofInt_toNat, ofInt_toNat', ofInt_toInt, BitVec.setWidth_eq, lit_u, BitVec.reduceOfInt, BitVec.reduceToNat, Nat.reducePow, Nat.reduceMod, Int.cast_ofNat_Int, Int.natCast_zero, Int.natCast_one, Int.reduceLT, Int.reduceLE, Int.reducePow, and_self, Int.zero_sub, BitVec.zero_sub]) hF (fun h hF => ?_) (fun h hF => ?_)
  · skip
    exact hk _ hF
  · skip
    exact hopI (hrr _ hF)
def corralref1_Decode.v18 (w : BitVec 32) (lA : Option Addr) (lN : Nat) (lC : Nat) (k : Int) (t20 : Int) (t21 : Int) (t22 : Int) (t23 : Int) (t24 : Int) (t25 : BitVec 32) (t26 : Bool) (t27 : Bool) (r0 : Int) (r1 : ByteArray) (r2 : BitVec 32) (r3 : BitVec 32) (r4 : BitVec 32) (r5 : Bool) (r6 : Bool) (r7 : BitVec 8) (r8 : Bool) (r9 : Bool) (r10 : Bool) (r11 : Bool) (r12 : BitVec 32) (r13 : Bool) (i0 : Int) (i1 : Int) (i2 : Int) (i3 : Int) (i4 : Int) (i5 : BitVec 32) (i6 : Bool) (i7 : Bool) : (Int × Int × Int × Int × Int × BitVec 32 × Bool × Bool × Bool) ⊕ (BitVec 32 × Int × Int × Int × Int × Int × Int × BitVec 32 × Bool × Bool) :=
  bif r13 then
    let c1 := corralref1_Bits.v w 26 1
    let c2 := corralref1_Bits.v w 25 1
    corralref1_Decode.v21 w lA lN lC k t20 t21 t22 t23 t24 t25 t26 t27 r0 r1 r2 r3 r4 r5 r6 r7 r8 r9 r10 r11 r12 r13 i0 i1 i2 i3 i4 i5 (c1 == 1#32) (c2 == 1#32)
  else
    corralref1_Decode.v21 w lA lN lC k t20 t21 t22 t23 t24 t25 t26 t27 r0 r1 r2 r3 r4 r5 r6 r7 r8 r9 r10 r11 r12 r13 i0 i1 i2 i3 i4 i5 i6 i7
theorem corralref1_Decode.j18_v {K : Value → Store → Prop} {σ : Store} {rr3 : corralref1_Decode.R3} (F : ((Int × Int × Int × Int × Int × BitVec 32 × Bool × Bool × Bool) ⊕ (BitVec 32 × Int × Int × Int × Int × Int × Int × BitVec 32 × Bool × Bool)) → Prop) (w : BitVec 32) (lA : Option Addr) (lN : Nat) (lC : Nat) (k : Int) (t20 : Int) (t21 : Int) (t22 : Int) (t23 : Int) (t24 : Int) (t25 : BitVec 32) (t26 : Bool) (t27 : Bool) (r0 : Int) (r1 : ByteArray) (r2 : BitVec 32) (r3 : BitVec 32) (r4 : BitVec 32) (r5 : Bool) (r6 : Bool) (r7 : BitVec 8) (r8 : Bool) (r9 : Bool) (r10 : Bool) (r11 : Bool) (r12 : BitVec 32) (r13 : Bool) (i0 : Int) (i1 : Int) (i2 : Int) (i3 : Int) (i4 : Int) (i5 : BitVec 32) (i6 : Bool) (i7 : Bool) (hk : ∀ r, F (.inl r) → K (.tuple #[.agg #[.int .i64 r.1, .int .i64 r.2.1, .int .i64 r.2.2.1, .int .i64 r.2.2.2.1, .int .i64 r.2.2.2.2.1, .int .u32 (BitVec.toNat r.2.2.2.2.2.1 : Int), .bool r.2.2.2.2.2.2.1, .bool r.2.2.2.2.2.2.2.1], .bool r.2.2.2.2.2.2.2.2]) σ) (hrr : ∀ s, F (.inr s) → rr3 (BitVec.toNat s.1 : Int) lA lN lC s.2.1 s.2.2.1 s.2.2.2.1 s.2.2.2.2.1 s.2.2.2.2.2.1 s.2.2.2.2.2.2.1 (BitVec.toNat s.2.2.2.2.2.2.2.1 : Int) s.2.2.2.2.2.2.2.2.1 s.2.2.2.2.2.2.2.2.2 σ) (hF : F (corralref1_Decode.v18 w lA lN lC k t20 t21 t22 t23 t24 t25 t26 t27 r0 r1 r2 r3 r4 r5 r6 r7 r8 r9 r10 r11 r12 r13 i0 i1 i2 i3 i4 i5 i6 i7)) : corralref1_Decode.j18 K rr3 (BitVec.toNat w : Int) lA lN lC k t20 t21 t22 t23 t24 (BitVec.toNat t25 : Int) t26 t27 r0 r1 (BitVec.toNat r2 : Int) (BitVec.toNat r3 : Int) (BitVec.toNat r4 : Int) r5 r6 (BitVec.toNat r7 : Int) r8 r9 r10 r11 (BitVec.toNat r12 : Int) r13 i0 i1 i2 i3 i4 (BitVec.toNat i5 : Int) i6 i7 σ := by
  unfold corralref1_Decode.j18
  unfold corralref1_Decode.v18 at hF
  try dsimp only at hF
  refine cond_v (F := F) (rfl) hF (fun h hF => ?_) (fun h hF => ?_)
  · skip
    refine Pur.use (corralref1_Bits.pur w 26 1 σ) (rfl) ⟨_, rfl, ?_⟩
    refine Pur.use (corralref1_Bits.pur w 25 1 σ) (rfl) ⟨_, rfl, ?_⟩
    exact hopI (Eq.mp (by simp only [beq_nat, beq_lit, ofInt_toNat, ofInt_toNat', ofInt_toInt, BitVec.setWidth_eq, lit_u, BitVec.reduceOfInt, BitVec.reduceToNat, Nat.reducePow, Nat.reduceMod, Int.cast_ofNat_Int, Int.natCast_zero, Int.natCast_one, Int.reduceLT, Int.reduceLE, Int.reducePow, and_self, Int.zero_sub, BitVec.zero_sub]) (corralref1_Decode.j21_v (rr3 := rr3) F w lA lN lC k t20 t21 t22 t23 t24 t25 t26 t27 r0 r1 r2 r3 r4 r5 r6 r7 r8 r9 r10 r11 r12 r13 i0 i1 i2 i3 i4 i5 ((corralref1_Bits.v w 26 1) == 1#32) ((corralref1_Bits.v w 25 1) == 1#32) hk hrr hF))
  · skip
    exact hopI (corralref1_Decode.j21_v (rr3 := rr3) F w lA lN lC k t20 t21 t22 t23 t24 t25 t26 t27 r0 r1 r2 r3 r4 r5 r6 r7 r8 r9 r10 r11 r12 r13 i0 i1 i2 i3 i4 i5 i6 i7 hk hrr hF)
def corralref1_Decode.v16 (w : BitVec 32) (lA : Option Addr) (lN : Nat) (lC : Nat) (k : Int) (t20 : Int) (t21 : Int) (t22 : Int) (t23 : Int) (t24 : Int) (t25 : BitVec 32) (t26 : Bool) (t27 : Bool) (r0 : Int) (r1 : ByteArray) (r2 : BitVec 32) (r3 : BitVec 32) (r4 : BitVec 32) (r5 : Bool) (r6 : Bool) (r7 : BitVec 8) (r8 : Bool) (r9 : Bool) (r10 : Bool) (r11 : Bool) (r12 : BitVec 32) (r13 : Bool) (i0 : Int) (i1 : Int) (i2 : Int) (i3 : Int) (i4 : Int) (i5 : BitVec 32) (i6 : Bool) (i7 : Bool) : (Int × Int × Int × Int × Int × BitVec 32 × Bool × Bool × Bool) ⊕ (BitVec 32 × Int × Int × Int × Int × Int × Int × BitVec 32 × Bool × Bool) :=
  bif r11 then
    let c1 := corralref1_Bits.v w 20 12
    corralref1_Decode.v18 w lA lN lC k t20 t21 t22 t23 t24 t25 t26 t27 r0 r1 r2 r3 r4 r5 r6 r7 r8 r9 r10 r11 r12 r13 i0 i1 i2 i3 (BitVec.toNat c1 : Int) i5 i6 i7
  else
    corralref1_Decode.v18 w lA lN lC k t20 t21 t22 t23 t24 t25 t26 t27 r0 r1 r2 r3 r4 r5 r6 r7 r8 r9 r10 r11 r12 r13 i0 i1 i2 i3 i4 i5 i6 i7
theorem corralref1_Decode.j16_v {K : Value → Store → Prop} {σ : Store} {rr3 : corralref1_Decode.R3} (F : ((Int × Int × Int × Int × Int × BitVec 32 × Bool × Bool × Bool) ⊕ (BitVec 32 × Int × Int × Int × Int × Int × Int × BitVec 32 × Bool × Bool)) → Prop) (w : BitVec 32) (lA : Option Addr) (lN : Nat) (lC : Nat) (k : Int) (t20 : Int) (t21 : Int) (t22 : Int) (t23 : Int) (t24 : Int) (t25 : BitVec 32) (t26 : Bool) (t27 : Bool) (r0 : Int) (r1 : ByteArray) (r2 : BitVec 32) (r3 : BitVec 32) (r4 : BitVec 32) (r5 : Bool) (r6 : Bool) (r7 : BitVec 8) (r8 : Bool) (r9 : Bool) (r10 : Bool) (r11 : Bool) (r12 : BitVec 32) (r13 : Bool) (i0 : Int) (i1 : Int) (i2 : Int) (i3 : Int) (i4 : Int) (i5 : BitVec 32) (i6 : Bool) (i7 : Bool) (hk : ∀ r, F (.inl r) → K (.tuple #[.agg #[.int .i64 r.1, .int .i64 r.2.1, .int .i64 r.2.2.1, .int .i64 r.2.2.2.1, .int .i64 r.2.2.2.2.1, .int .u32 (BitVec.toNat r.2.2.2.2.2.1 : Int), .bool r.2.2.2.2.2.2.1, .bool r.2.2.2.2.2.2.2.1], .bool r.2.2.2.2.2.2.2.2]) σ) (hrr : ∀ s, F (.inr s) → rr3 (BitVec.toNat s.1 : Int) lA lN lC s.2.1 s.2.2.1 s.2.2.2.1 s.2.2.2.2.1 s.2.2.2.2.2.1 s.2.2.2.2.2.2.1 (BitVec.toNat s.2.2.2.2.2.2.2.1 : Int) s.2.2.2.2.2.2.2.2.1 s.2.2.2.2.2.2.2.2.2 σ) (hF : F (corralref1_Decode.v16 w lA lN lC k t20 t21 t22 t23 t24 t25 t26 t27 r0 r1 r2 r3 r4 r5 r6 r7 r8 r9 r10 r11 r12 r13 i0 i1 i2 i3 i4 i5 i6 i7)) : corralref1_Decode.j16 K rr3 (BitVec.toNat w : Int) lA lN lC k t20 t21 t22 t23 t24 (BitVec.toNat t25 : Int) t26 t27 r0 r1 (BitVec.toNat r2 : Int) (BitVec.toNat r3 : Int) (BitVec.toNat r4 : Int) r5 r6 (BitVec.toNat r7 : Int) r8 r9 r10 r11 (BitVec.toNat r12 : Int) r13 i0 i1 i2 i3 i4 (BitVec.toNat i5 : Int) i6 i7 σ := by
  unfold corralref1_Decode.j16
  unfold corralref1_Decode.v16 at hF
  try dsimp only at hF
  refine cond_v (F := F) (rfl) hF (fun h hF => ?_) (fun h hF => ?_)
  · skip
    refine Pur.use (corralref1_Bits.pur w 20 12 σ) (rfl) ⟨_, rfl, ?_⟩
    exact hopI (Eq.mp (by simp only [toI64_u32, toI64_u8, toI64_u64, wrap_i64_toInt32, ofInt_toNat, ofInt_toNat', ofInt_toInt, BitVec.setWidth_eq, lit_u, BitVec.reduceOfInt, BitVec.reduceToNat, Nat.reducePow, Nat.reduceMod, Int.cast_ofNat_Int, Int.natCast_zero, Int.natCast_one, Int.reduceLT, Int.reduceLE, Int.reducePow, and_self, Int.zero_sub, BitVec.zero_sub]) (corralref1_Decode.j18_v (rr3 := rr3) F w lA lN lC k t20 t21 t22 t23 t24 t25 t26 t27 r0 r1 r2 r3 r4 r5 r6 r7 r8 r9 r10 r11 r12 r13 i0 i1 i2 i3 (BitVec.toNat (corralref1_Bits.v w 20 12) : Int) i5 i6 i7 hk hrr hF))
  · skip
    exact hopI (corralref1_Decode.j18_v (rr3 := rr3) F w lA lN lC k t20 t21 t22 t23 t24 t25 t26 t27 r0 r1 r2 r3 r4 r5 r6 r7 r8 r9 r10 r11 r12 r13 i0 i1 i2 i3 i4 i5 i6 i7 hk hrr hF)
def corralref1_Decode.v14 (w : BitVec 32) (lA : Option Addr) (lN : Nat) (lC : Nat) (k : Int) (t20 : Int) (t21 : Int) (t22 : Int) (t23 : Int) (t24 : Int) (t25 : BitVec 32) (t26 : Bool) (t27 : Bool) (r0 : Int) (r1 : ByteArray) (r2 : BitVec 32) (r3 : BitVec 32) (r4 : BitVec 32) (r5 : Bool) (r6 : Bool) (r7 : BitVec 8) (r8 : Bool) (r9 : Bool) (r10 : Bool) (r11 : Bool) (r12 : BitVec 32) (r13 : Bool) (i0 : Int) (i1 : Int) (i2 : Int) (i3 : Int) (i4 : Int) (i5 : BitVec 32) (i6 : Bool) (i7 : Bool) : (Int × Int × Int × Int × Int × BitVec 32 × Bool × Bool × Bool) ⊕ (BitVec 32 × Int × Int × Int × Int × Int × Int × BitVec 32 × Bool × Bool) :=
  bif r10 then
    let c1 := corralref1_Bits.v w 20 5
    corralref1_Decode.v16 w lA lN lC k t20 t21 t22 t23 t24 t25 t26 t27 r0 r1 r2 r3 r4 r5 r6 r7 r8 r9 r10 r11 r12 r13 i0 i1 i2 (BitVec.toNat c1 : Int) i4 i5 i6 i7
  else
    corralref1_Decode.v16 w lA lN lC k t20 t21 t22 t23 t24 t25 t26 t27 r0 r1 r2 r3 r4 r5 r6 r7 r8 r9 r10 r11 r12 r13 i0 i1 i2 i3 i4 i5 i6 i7
theorem corralref1_Decode.j14_v {K : Value → Store → Prop} {σ : Store} {rr3 : corralref1_Decode.R3} (F : ((Int × Int × Int × Int × Int × BitVec 32 × Bool × Bool × Bool) ⊕ (BitVec 32 × Int × Int × Int × Int × Int × Int × BitVec 32 × Bool × Bool)) → Prop) (w : BitVec 32) (lA : Option Addr) (lN : Nat) (lC : Nat) (k : Int) (t20 : Int) (t21 : Int) (t22 : Int) (t23 : Int) (t24 : Int) (t25 : BitVec 32) (t26 : Bool) (t27 : Bool) (r0 : Int) (r1 : ByteArray) (r2 : BitVec 32) (r3 : BitVec 32) (r4 : BitVec 32) (r5 : Bool) (r6 : Bool) (r7 : BitVec 8) (r8 : Bool) (r9 : Bool) (r10 : Bool) (r11 : Bool) (r12 : BitVec 32) (r13 : Bool) (i0 : Int) (i1 : Int) (i2 : Int) (i3 : Int) (i4 : Int) (i5 : BitVec 32) (i6 : Bool) (i7 : Bool) (hk : ∀ r, F (.inl r) → K (.tuple #[.agg #[.int .i64 r.1, .int .i64 r.2.1, .int .i64 r.2.2.1, .int .i64 r.2.2.2.1, .int .i64 r.2.2.2.2.1, .int .u32 (BitVec.toNat r.2.2.2.2.2.1 : Int), .bool r.2.2.2.2.2.2.1, .bool r.2.2.2.2.2.2.2.1], .bool r.2.2.2.2.2.2.2.2]) σ) (hrr : ∀ s, F (.inr s) → rr3 (BitVec.toNat s.1 : Int) lA lN lC s.2.1 s.2.2.1 s.2.2.2.1 s.2.2.2.2.1 s.2.2.2.2.2.1 s.2.2.2.2.2.2.1 (BitVec.toNat s.2.2.2.2.2.2.2.1 : Int) s.2.2.2.2.2.2.2.2.1 s.2.2.2.2.2.2.2.2.2 σ) (hF : F (corralref1_Decode.v14 w lA lN lC k t20 t21 t22 t23 t24 t25 t26 t27 r0 r1 r2 r3 r4 r5 r6 r7 r8 r9 r10 r11 r12 r13 i0 i1 i2 i3 i4 i5 i6 i7)) : corralref1_Decode.j14 K rr3 (BitVec.toNat w : Int) lA lN lC k t20 t21 t22 t23 t24 (BitVec.toNat t25 : Int) t26 t27 r0 r1 (BitVec.toNat r2 : Int) (BitVec.toNat r3 : Int) (BitVec.toNat r4 : Int) r5 r6 (BitVec.toNat r7 : Int) r8 r9 r10 r11 (BitVec.toNat r12 : Int) r13 i0 i1 i2 i3 i4 (BitVec.toNat i5 : Int) i6 i7 σ := by
  unfold corralref1_Decode.j14
  unfold corralref1_Decode.v14 at hF
  try dsimp only at hF
  refine cond_v (F := F) (rfl) hF (fun h hF => ?_) (fun h hF => ?_)
  · skip
    refine Pur.use (corralref1_Bits.pur w 20 5 σ) (rfl) ⟨_, rfl, ?_⟩
    exact hopI (Eq.mp (by simp only [toI64_u32, toI64_u8, toI64_u64, wrap_i64_toInt32, ofInt_toNat, ofInt_toNat', ofInt_toInt, BitVec.setWidth_eq, lit_u, BitVec.reduceOfInt, BitVec.reduceToNat, Nat.reducePow, Nat.reduceMod, Int.cast_ofNat_Int, Int.natCast_zero, Int.natCast_one, Int.reduceLT, Int.reduceLE, Int.reducePow, and_self, Int.zero_sub, BitVec.zero_sub]) (corralref1_Decode.j16_v (rr3 := rr3) F w lA lN lC k t20 t21 t22 t23 t24 t25 t26 t27 r0 r1 r2 r3 r4 r5 r6 r7 r8 r9 r10 r11 r12 r13 i0 i1 i2 (BitVec.toNat (corralref1_Bits.v w 20 5) : Int) i4 i5 i6 i7 hk hrr hF))
  · skip
    exact hopI (corralref1_Decode.j16_v (rr3 := rr3) F w lA lN lC k t20 t21 t22 t23 t24 t25 t26 t27 r0 r1 r2 r3 r4 r5 r6 r7 r8 r9 r10 r11 r12 r13 i0 i1 i2 i3 i4 i5 i6 i7 hk hrr hF)
def corralref1_Decode.v12 (w : BitVec 32) (lA : Option Addr) (lN : Nat) (lC : Nat) (k : Int) (t20 : Int) (t21 : Int) (t22 : Int) (t23 : Int) (t24 : Int) (t25 : BitVec 32) (t26 : Bool) (t27 : Bool) (r0 : Int) (r1 : ByteArray) (r2 : BitVec 32) (r3 : BitVec 32) (r4 : BitVec 32) (r5 : Bool) (r6 : Bool) (r7 : BitVec 8) (r8 : Bool) (r9 : Bool) (r10 : Bool) (r11 : Bool) (r12 : BitVec 32) (r13 : Bool) (i0 : Int) (i1 : Int) (i2 : Int) (i3 : Int) (i4 : Int) (i5 : BitVec 32) (i6 : Bool) (i7 : Bool) : (Int × Int × Int × Int × Int × BitVec 32 × Bool × Bool × Bool) ⊕ (BitVec 32 × Int × Int × Int × Int × Int × Int × BitVec 32 × Bool × Bool) :=
  bif r9 then
    let c1 := corralref1_Bits.v w 15 5
    corralref1_Decode.v14 w lA lN lC k t20 t21 t22 t23 t24 t25 t26 t27 r0 r1 r2 r3 r4 r5 r6 r7 r8 r9 r10 r11 r12 r13 i0 i1 (BitVec.toNat c1 : Int) i3 i4 i5 i6 i7
  else
    corralref1_Decode.v14 w lA lN lC k t20 t21 t22 t23 t24 t25 t26 t27 r0 r1 r2 r3 r4 r5 r6 r7 r8 r9 r10 r11 r12 r13 i0 i1 i2 i3 i4 i5 i6 i7
theorem corralref1_Decode.j12_v {K : Value → Store → Prop} {σ : Store} {rr3 : corralref1_Decode.R3} (F : ((Int × Int × Int × Int × Int × BitVec 32 × Bool × Bool × Bool) ⊕ (BitVec 32 × Int × Int × Int × Int × Int × Int × BitVec 32 × Bool × Bool)) → Prop) (w : BitVec 32) (lA : Option Addr) (lN : Nat) (lC : Nat) (k : Int) (t20 : Int) (t21 : Int) (t22 : Int) (t23 : Int) (t24 : Int) (t25 : BitVec 32) (t26 : Bool) (t27 : Bool) (r0 : Int) (r1 : ByteArray) (r2 : BitVec 32) (r3 : BitVec 32) (r4 : BitVec 32) (r5 : Bool) (r6 : Bool) (r7 : BitVec 8) (r8 : Bool) (r9 : Bool) (r10 : Bool) (r11 : Bool) (r12 : BitVec 32) (r13 : Bool) (i0 : Int) (i1 : Int) (i2 : Int) (i3 : Int) (i4 : Int) (i5 : BitVec 32) (i6 : Bool) (i7 : Bool) (hk : ∀ r, F (.inl r) → K (.tuple #[.agg #[.int .i64 r.1, .int .i64 r.2.1, .int .i64 r.2.2.1, .int .i64 r.2.2.2.1, .int .i64 r.2.2.2.2.1, .int .u32 (BitVec.toNat r.2.2.2.2.2.1 : Int), .bool r.2.2.2.2.2.2.1, .bool r.2.2.2.2.2.2.2.1], .bool r.2.2.2.2.2.2.2.2]) σ) (hrr : ∀ s, F (.inr s) → rr3 (BitVec.toNat s.1 : Int) lA lN lC s.2.1 s.2.2.1 s.2.2.2.1 s.2.2.2.2.1 s.2.2.2.2.2.1 s.2.2.2.2.2.2.1 (BitVec.toNat s.2.2.2.2.2.2.2.1 : Int) s.2.2.2.2.2.2.2.2.1 s.2.2.2.2.2.2.2.2.2 σ) (hF : F (corralref1_Decode.v12 w lA lN lC k t20 t21 t22 t23 t24 t25 t26 t27 r0 r1 r2 r3 r4 r5 r6 r7 r8 r9 r10 r11 r12 r13 i0 i1 i2 i3 i4 i5 i6 i7)) : corralref1_Decode.j12 K rr3 (BitVec.toNat w : Int) lA lN lC k t20 t21 t22 t23 t24 (BitVec.toNat t25 : Int) t26 t27 r0 r1 (BitVec.toNat r2 : Int) (BitVec.toNat r3 : Int) (BitVec.toNat r4 : Int) r5 r6 (BitVec.toNat r7 : Int) r8 r9 r10 r11 (BitVec.toNat r12 : Int) r13 i0 i1 i2 i3 i4 (BitVec.toNat i5 : Int) i6 i7 σ := by
  unfold corralref1_Decode.j12
  unfold corralref1_Decode.v12 at hF
  try dsimp only at hF
  refine cond_v (F := F) (rfl) hF (fun h hF => ?_) (fun h hF => ?_)
  · skip
    refine Pur.use (corralref1_Bits.pur w 15 5 σ) (rfl) ⟨_, rfl, ?_⟩
    exact hopI (Eq.mp (by simp only [toI64_u32, toI64_u8, toI64_u64, wrap_i64_toInt32, ofInt_toNat, ofInt_toNat', ofInt_toInt, BitVec.setWidth_eq, lit_u, BitVec.reduceOfInt, BitVec.reduceToNat, Nat.reducePow, Nat.reduceMod, Int.cast_ofNat_Int, Int.natCast_zero, Int.natCast_one, Int.reduceLT, Int.reduceLE, Int.reducePow, and_self, Int.zero_sub, BitVec.zero_sub]) (corralref1_Decode.j14_v (rr3 := rr3) F w lA lN lC k t20 t21 t22 t23 t24 t25 t26 t27 r0 r1 r2 r3 r4 r5 r6 r7 r8 r9 r10 r11 r12 r13 i0 i1 (BitVec.toNat (corralref1_Bits.v w 15 5) : Int) i3 i4 i5 i6 i7 hk hrr hF))
  · skip
    exact hopI (corralref1_Decode.j14_v (rr3 := rr3) F w lA lN lC k t20 t21 t22 t23 t24 t25 t26 t27 r0 r1 r2 r3 r4 r5 r6 r7 r8 r9 r10 r11 r12 r13 i0 i1 i2 i3 i4 i5 i6 i7 hk hrr hF)
def corralref1_Decode.v24 (t20 : Int) (t21 : Int) (t22 : Int) (t23 : Int) (t24 : Int) (t25 : BitVec 32) (t26 : Bool) (t27 : Bool) : Int × Int × Int × Int × Int × BitVec 32 × Bool × Bool × Bool :=
  (0, 0, 0, 0, 0, 0#32, false, false, false)
theorem corralref1_Decode.j24_v {K : Value → Store → Prop} {σ : Store} (F : (Int × Int × Int × Int × Int × BitVec 32 × Bool × Bool × Bool) → Prop) (t20 : Int) (t21 : Int) (t22 : Int) (t23 : Int) (t24 : Int) (t25 : BitVec 32) (t26 : Bool) (t27 : Bool) (hk : ∀ r, F r → K (.tuple #[.agg #[.int .i64 r.1, .int .i64 r.2.1, .int .i64 r.2.2.1, .int .i64 r.2.2.2.1, .int .i64 r.2.2.2.2.1, .int .u32 (BitVec.toNat r.2.2.2.2.2.1 : Int), .bool r.2.2.2.2.2.2.1, .bool r.2.2.2.2.2.2.2.1], .bool r.2.2.2.2.2.2.2.2]) σ) (hF : F (corralref1_Decode.v24 t20 t21 t22 t23 t24 t25 t26 t27)) : corralref1_Decode.j24 K t20 t21 t22 t23 t24 (BitVec.toNat t25 : Int) t26 t27 σ := by
  unfold corralref1_Decode.j24
  unfold corralref1_Decode.v24 at hF
  try dsimp only at hF
  exact hk _ hF
def corralref1_Decode.bv3 (w : BitVec 32) (lA : Option Addr) (lN : Nat) (lC : Nat) (k : Int) (t20 : Int) (t21 : Int) (t22 : Int) (t23 : Int) (t24 : Int) (t25 : BitVec 32) (t26 : Bool) (t27 : Bool) (t180 : Int) (t181 : ByteArray) (t182 : BitVec 32) (t183 : BitVec 32) (t184 : BitVec 32) (t185 : Bool) (t186 : Bool) (t187 : BitVec 8) (t188 : Bool) (t189 : Bool) (t1810 : Bool) (t1811 : Bool) (t1812 : BitVec 32) (t1813 : Bool) : (Int × Int × Int × Int × Int × BitVec 32 × Bool × Bool × Bool) ⊕ (BitVec 32 × Int × Int × Int × Int × Int × Int × BitVec 32 × Bool × Bool) :=
  bif (t1812 != 0#32) then
    bif (w == t1812) then
      .inl (t180, 0, 0, 0, 0, 0#32, false, false, true)
    else
      .inr (w, (IntKind.wrap .i64 (k + 1)), t20, t21, t22, t23, t24, t25, t26, t27)
  else
    bif t188 then
      let c1 := corralref1_Bits.v w 7 5
      corralref1_Decode.v12 w lA lN lC k t20 t21 t22 t23 t24 t25 t26 t27 t180 t181 t182 t183 t184 t185 t186 t187 t188 t189 t1810 t1811 t1812 t1813 t180 (BitVec.toNat c1 : Int) 0 0 0 0#32 false false
    else
      corralref1_Decode.v12 w lA lN lC k t20 t21 t22 t23 t24 t25 t26 t27 t180 t181 t182 t183 t184 t185 t186 t187 t188 t189 t1810 t1811 t1812 t1813 t180 0 0 0 0 0#32 false false
theorem corralref1_Decode.b3_v {K : Value → Store → Prop} {σ : Store} {rr3 : corralref1_Decode.R3} (F : ((Int × Int × Int × Int × Int × BitVec 32 × Bool × Bool × Bool) ⊕ (BitVec 32 × Int × Int × Int × Int × Int × Int × BitVec 32 × Bool × Bool)) → Prop) (w : BitVec 32) (lA : Option Addr) (lN : Nat) (lC : Nat) (k : Int) (t20 : Int) (t21 : Int) (t22 : Int) (t23 : Int) (t24 : Int) (t25 : BitVec 32) (t26 : Bool) (t27 : Bool) (t180 : Int) (t181 : ByteArray) (t182 : BitVec 32) (t183 : BitVec 32) (t184 : BitVec 32) (t185 : Bool) (t186 : Bool) (t187 : BitVec 8) (t188 : Bool) (t189 : Bool) (t1810 : Bool) (t1811 : Bool) (t1812 : BitVec 32) (t1813 : Bool) (hk : ∀ r, F (.inl r) → K (.tuple #[.agg #[.int .i64 r.1, .int .i64 r.2.1, .int .i64 r.2.2.1, .int .i64 r.2.2.2.1, .int .i64 r.2.2.2.2.1, .int .u32 (BitVec.toNat r.2.2.2.2.2.1 : Int), .bool r.2.2.2.2.2.2.1, .bool r.2.2.2.2.2.2.2.1], .bool r.2.2.2.2.2.2.2.2]) σ) (hrr : ∀ s, F (.inr s) → rr3 (BitVec.toNat s.1 : Int) lA lN lC s.2.1 s.2.2.1 s.2.2.2.1 s.2.2.2.2.1 s.2.2.2.2.2.1 s.2.2.2.2.2.2.1 (BitVec.toNat s.2.2.2.2.2.2.2.1 : Int) s.2.2.2.2.2.2.2.2.1 s.2.2.2.2.2.2.2.2.2 σ) (hc : ((decide (k < ((lN : Nat) : Int)))) = true) (hr0 : ∀ Body : Nat → Nat → Prop, (∀ B O, cellsAt σ B (O + k.toNat * 14) 14 = some [.int .i64 t180, .string t181, .int .u32 (BitVec.toNat t182 : Int), .int .u32 (BitVec.toNat t183 : Int), .int .u32 (BitVec.toNat t184 : Int), .bool t185, .bool t186, .int .u8 (BitVec.toNat t187 : Int), .bool t188, .bool t189, .bool t1810, .bool t1811, .int .u32 (BitVec.toNat t1812 : Int), .bool t1813] → Body B O) → Req ((decide (0 ≤ k)) && (decide (k < ((lN : Nat) : Int)))) (PtrNN lA Body)) (hF : F (corralref1_Decode.bv3 w lA lN lC k t20 t21 t22 t23 t24 t25 t26 t27 t180 t181 t182 t183 t184 t185 t186 t187 t188 t189 t1810 t1811 t1812 t1813)) : corralref1_Decode.b3 K rr3 (BitVec.toNat w : Int) lA lN lC k t20 t21 t22 t23 t24 (BitVec.toNat t25 : Int) t26 t27 σ := by
  unfold corralref1_Decode.b3
  unfold corralref1_Decode.bv3 at hF
  try dsimp only at hF
  refine cond_t (hc) ?_
  refine hr0 _ fun B O hc => ⟨_, _, _, _, _, _, _, _, _, _, _, _, _, _, hc, ?_⟩
  refine cond_v (F := F) (by simp only [bne_nat, bne_lit, ofInt_toNat, ofInt_toNat', ofInt_toInt, BitVec.setWidth_eq, lit_u, BitVec.reduceOfInt, BitVec.reduceToNat, Nat.reducePow, Nat.reduceMod, Int.cast_ofNat_Int, Int.natCast_zero, Int.natCast_one, Int.reduceLT, Int.reduceLE, Int.reducePow, and_self, Int.zero_sub, BitVec.zero_sub]) hF (fun h hF => ?_) (fun h hF => ?_)
  · skip
    refine cond_v (F := F) (by simp only [beq_nat, beq_lit, ofInt_toNat, ofInt_toNat', ofInt_toInt, BitVec.setWidth_eq, lit_u, BitVec.reduceOfInt, BitVec.reduceToNat, Nat.reducePow, Nat.reduceMod, Int.cast_ofNat_Int, Int.natCast_zero, Int.natCast_one, Int.reduceLT, Int.reduceLE, Int.reducePow, and_self, Int.zero_sub, BitVec.zero_sub]) hF (fun h hF => ?_) (fun h hF => ?_)
    · skip
      exact hk _ hF
    · skip
      exact hopI (hrr _ hF)
  · skip
    refine cond_v (F := F) (rfl) hF (fun h hF => ?_) (fun h hF => ?_)
    · skip
      refine Pur.use (corralref1_Bits.pur w 7 5 σ) (rfl) ⟨_, rfl, ?_⟩
      exact hopI (Eq.mp (by simp only [toI64_u32, toI64_u8, toI64_u64, wrap_i64_toInt32, ofInt_toNat, ofInt_toNat', ofInt_toInt, BitVec.setWidth_eq, lit_u, BitVec.reduceOfInt, BitVec.reduceToNat, Nat.reducePow, Nat.reduceMod, Int.cast_ofNat_Int, Int.natCast_zero, Int.natCast_one, Int.reduceLT, Int.reduceLE, Int.reducePow, and_self, Int.zero_sub, BitVec.zero_sub]) (corralref1_Decode.j12_v (rr3 := rr3) F w lA lN lC k t20 t21 t22 t23 t24 t25 t26 t27 t180 t181 t182 t183 t184 t185 t186 t187 t188 t189 t1810 t1811 t1812 t1813 t180 (BitVec.toNat (corralref1_Bits.v w 7 5) : Int) 0 0 0 0#32 false false hk hrr hF))
    · skip
      exact hopI (Eq.mp (by simp only [ofInt_toNat, ofInt_toNat', ofInt_toInt, BitVec.setWidth_eq, lit_u, BitVec.reduceOfInt, BitVec.reduceToNat, Nat.reducePow, Nat.reduceMod, Int.cast_ofNat_Int, Int.natCast_zero, Int.natCast_one, Int.reduceLT, Int.reduceLE, Int.reducePow, and_self, Int.zero_sub, BitVec.zero_sub]) (corralref1_Decode.j12_v (rr3 := rr3) F w lA lN lC k t20 t21 t22 t23 t24 t25 t26 t27 t180 t181 t182 t183 t184 t185 t186 t187 t188 t189 t1810 t1811 t1812 t1813 t180 0 0 0 0 0#32 false false hk hrr hF))

/-! ### corralref1_row -/
def corralref1_row.v22 (t140 : Int) (t141 : ByteArray) (t142 : BitVec 32) (t143 : BitVec 32) (t144 : BitVec 32) (t145 : Bool) (t146 : Bool) (t147 : BitVec 8) (t148 : Bool) (t149 : Bool) (t1410 : Bool) (t1411 : Bool) (t1412 : BitVec 32) (t1413 : Bool) (r0 : Int) (r1 : ByteArray) (r2 : BitVec 32) (r3 : BitVec 32) (r4 : BitVec 32) (r5 : Bool) (r6 : Bool) (r7 : BitVec 8) (r8 : Bool) (r9 : Bool) (r10 : Bool) (r11 : Bool) (r12 : BitVec 32) (r13 : Bool) : Int × ByteArray × BitVec 32 × BitVec 32 × BitVec 32 × Bool × Bool × BitVec 8 × Bool × Bool × Bool × Bool × BitVec 32 × Bool :=
  (r0, r1, r2, r3, r4, r5, r6, r7, r8, r9, r10, r11, r12, r13)
theorem corralref1_row.j22_v {K : Value → Store → Prop} {σ : Store} (F : (Int × ByteArray × BitVec 32 × BitVec 32 × BitVec 32 × Bool × Bool × BitVec 8 × Bool × Bool × Bool × Bool × BitVec 32 × Bool) → Prop) (t140 : Int) (t141 : ByteArray) (t142 : BitVec 32) (t143 : BitVec 32) (t144 : BitVec 32) (t145 : Bool) (t146 : Bool) (t147 : BitVec 8) (t148 : Bool) (t149 : Bool) (t1410 : Bool) (t1411 : Bool) (t1412 : BitVec 32) (t1413 : Bool) (r0 : Int) (r1 : ByteArray) (r2 : BitVec 32) (r3 : BitVec 32) (r4 : BitVec 32) (r5 : Bool) (r6 : Bool) (r7 : BitVec 8) (r8 : Bool) (r9 : Bool) (r10 : Bool) (r11 : Bool) (r12 : BitVec 32) (r13 : Bool) (hk : ∀ r, F r → K (.agg #[.int .i64 r.1, .string r.2.1, .int .u32 (BitVec.toNat r.2.2.1 : Int), .int .u32 (BitVec.toNat r.2.2.2.1 : Int), .int .u32 (BitVec.toNat r.2.2.2.2.1 : Int), .bool r.2.2.2.2.2.1, .bool r.2.2.2.2.2.2.1, .int .u8 (BitVec.toNat r.2.2.2.2.2.2.2.1 : Int), .bool r.2.2.2.2.2.2.2.2.1, .bool r.2.2.2.2.2.2.2.2.2.1, .bool r.2.2.2.2.2.2.2.2.2.2.1, .bool r.2.2.2.2.2.2.2.2.2.2.2.1, .int .u32 (BitVec.toNat r.2.2.2.2.2.2.2.2.2.2.2.2.1 : Int), .bool r.2.2.2.2.2.2.2.2.2.2.2.2.2]) σ) (hF : F (corralref1_row.v22 t140 t141 t142 t143 t144 t145 t146 t147 t148 t149 t1410 t1411 t1412 t1413 r0 r1 r2 r3 r4 r5 r6 r7 r8 r9 r10 r11 r12 r13)) : corralref1_row.j22 K t140 t141 (BitVec.toNat t142 : Int) (BitVec.toNat t143 : Int) (BitVec.toNat t144 : Int) t145 t146 (BitVec.toNat t147 : Int) t148 t149 t1410 t1411 (BitVec.toNat t1412 : Int) t1413 r0 r1 (BitVec.toNat r2 : Int) (BitVec.toNat r3 : Int) (BitVec.toNat r4 : Int) r5 r6 (BitVec.toNat r7 : Int) r8 r9 r10 r11 (BitVec.toNat r12 : Int) r13 σ := by
  unfold corralref1_row.j22
  unfold corralref1_row.v22 at hF
  try dsimp only at hF
  exact hk _ hF
def corralref1_row.bv9 (uses : ByteArray) (i : Int) (t140 : Int) (t141 : ByteArray) (t142 : BitVec 32) (t143 : BitVec 32) (t144 : BitVec 32) (t145 : Bool) (t146 : Bool) (t147 : BitVec 8) (t148 : Bool) (t149 : Bool) (t1410 : Bool) (t1411 : Bool) (t1412 : BitVec 32) (t1413 : Bool) (r0 : Int) (r1 : ByteArray) (r2 : BitVec 32) (r3 : BitVec 32) (r4 : BitVec 32) (r5 : Bool) (r6 : Bool) (r7 : BitVec 8) (r8 : Bool) (r9 : Bool) (r10 : Bool) (r11 : Bool) (r12 : BitVec 32) (r13 : Bool) : (Int × ByteArray × BitVec 32 × BitVec 32 × BitVec 32 × Bool × Bool × BitVec 8 × Bool × Bool × Bool × Bool × BitVec 32 × Bool) ⊕ (ByteArray × Int × Int × ByteArray × BitVec 32 × BitVec 32 × BitVec 32 × Bool × Bool × BitVec 8 × Bool × Bool × Bool × Bool × BitVec 32 × Bool × Int × ByteArray × BitVec 32 × BitVec 32 × BitVec 32 × Bool × Bool × BitVec 8 × Bool × Bool × Bool × Bool × BitVec 32 × Bool) :=
  bif ((byteAt uses i.toNat) == 100) then
    .inr (uses, (IntKind.wrap .i64 (i + 1)), t140, t141, t142, t143, t144, t145, t146, t147, t148, t149, t1410, t1411, t1412, t1413, r0, r1, r2, r3, r4, r5, r6, r7, true, r9, r10, r11, r12, r13)
  else
    bif ((byteAt uses i.toNat) == 97) then
      .inr (uses, (IntKind.wrap .i64 (i + 1)), t140, t141, t142, t143, t144, t145, t146, t147, t148, t149, t1410, t1411, t1412, t1413, r0, r1, r2, r3, r4, r5, r6, r7, r8, true, r10, r11, r12, r13)
    else
      bif ((byteAt uses i.toNat) == 98) then
        .inr (uses, (IntKind.wrap .i64 (i + 1)), t140, t141, t142, t143, t144, t145, t146, t147, t148, t149, t1410, t1411, t1412, t1413, r0, r1, r2, r3, r4, r5, r6, r7, r8, r9, true, r11, r12, r13)
      else
        bif ((byteAt uses i.toNat) == 99) then
          .inr (uses, (IntKind.wrap .i64 (i + 1)), t140, t141, t142, t143, t144, t145, t146, t147, t148, t149, t1410, t1411, t1412, t1413, r0, r1, r2, r3, r4, r5, r6, r7, r8, r9, r10, true, r12, r13)
        else
          bif ((byteAt uses i.toNat) == 112) then
            .inr (uses, (IntKind.wrap .i64 (i + 1)), t140, t141, t142, t143, t144, t145, t146, t147, t148, t149, t1410, t1411, t1412, t1413, r0, r1, r2, r3, r4, r5, r6, r7, r8, r9, r10, r11, r12, true)
          else
            .inr (uses, (IntKind.wrap .i64 (i + 1)), t140, t141, t142, t143, t144, t145, t146, t147, t148, t149, t1410, t1411, t1412, t1413, r0, r1, r2, r3, r4, r5, r6, r7, r8, r9, r10, r11, r12, r13)
theorem corralref1_row.b9_v {K : Value → Store → Prop} {σ : Store} {rr9 : corralref1_row.R9} (F : ((Int × ByteArray × BitVec 32 × BitVec 32 × BitVec 32 × Bool × Bool × BitVec 8 × Bool × Bool × Bool × Bool × BitVec 32 × Bool) ⊕ (ByteArray × Int × Int × ByteArray × BitVec 32 × BitVec 32 × BitVec 32 × Bool × Bool × BitVec 8 × Bool × Bool × Bool × Bool × BitVec 32 × Bool × Int × ByteArray × BitVec 32 × BitVec 32 × BitVec 32 × Bool × Bool × BitVec 8 × Bool × Bool × Bool × Bool × BitVec 32 × Bool)) → Prop) (uses : ByteArray) (i : Int) (t140 : Int) (t141 : ByteArray) (t142 : BitVec 32) (t143 : BitVec 32) (t144 : BitVec 32) (t145 : Bool) (t146 : Bool) (t147 : BitVec 8) (t148 : Bool) (t149 : Bool) (t1410 : Bool) (t1411 : Bool) (t1412 : BitVec 32) (t1413 : Bool) (r0 : Int) (r1 : ByteArray) (r2 : BitVec 32) (r3 : BitVec 32) (r4 : BitVec 32) (r5 : Bool) (r6 : Bool) (r7 : BitVec 8) (r8 : Bool) (r9 : Bool) (r10 : Bool) (r11 : Bool) (r12 : BitVec 32) (r13 : Bool) (hk : ∀ r, F (.inl r) → K (.agg #[.int .i64 r.1, .string r.2.1, .int .u32 (BitVec.toNat r.2.2.1 : Int), .int .u32 (BitVec.toNat r.2.2.2.1 : Int), .int .u32 (BitVec.toNat r.2.2.2.2.1 : Int), .bool r.2.2.2.2.2.1, .bool r.2.2.2.2.2.2.1, .int .u8 (BitVec.toNat r.2.2.2.2.2.2.2.1 : Int), .bool r.2.2.2.2.2.2.2.2.1, .bool r.2.2.2.2.2.2.2.2.2.1, .bool r.2.2.2.2.2.2.2.2.2.2.1, .bool r.2.2.2.2.2.2.2.2.2.2.2.1, .int .u32 (BitVec.toNat r.2.2.2.2.2.2.2.2.2.2.2.2.1 : Int), .bool r.2.2.2.2.2.2.2.2.2.2.2.2.2]) σ) (hrr : ∀ s, F (.inr s) → rr9 s.1 s.2.1 s.2.2.1 s.2.2.2.1 (BitVec.toNat s.2.2.2.2.1 : Int) (BitVec.toNat s.2.2.2.2.2.1 : Int) (BitVec.toNat s.2.2.2.2.2.2.1 : Int) s.2.2.2.2.2.2.2.1 s.2.2.2.2.2.2.2.2.1 (BitVec.toNat s.2.2.2.2.2.2.2.2.2.1 : Int) s.2.2.2.2.2.2.2.2.2.2.1 s.2.2.2.2.2.2.2.2.2.2.2.1 s.2.2.2.2.2.2.2.2.2.2.2.2.1 s.2.2.2.2.2.2.2.2.2.2.2.2.2.1 (BitVec.toNat s.2.2.2.2.2.2.2.2.2.2.2.2.2.2.1 : Int) s.2.2.2.2.2.2.2.2.2.2.2.2.2.2.2.1 s.2.2.2.2.2.2.2.2.2.2.2.2.2.2.2.2.1 s.2.2.2.2.2.2.2.2.2.2.2.2.2.2.2.2.2.1 (BitVec.toNat s.2.2.2.2.2.2.2.2.2.2.2.2.2.2.2.2.2.2.1 : Int) (BitVec.toNat s.2.2.2.2.2.2.2.2.2.2.2.2.2.2.2.2.2.2.2.1 : Int) (BitVec.toNat s.2.2.2.2.2.2.2.2.2.2.2.2.2.2.2.2.2.2.2.2.1 : Int) s.2.2.2.2.2.2.2.2.2.2.2.2.2.2.2.2.2.2.2.2.2.1 s.2.2.2.2.2.2.2.2.2.2.2.2.2.2.2.2.2.2.2.2.2.2.1 (BitVec.toNat s.2.2.2.2.2.2.2.2.2.2.2.2.2.2.2.2.2.2.2.2.2.2.2.1 : Int) s.2.2.2.2.2.2.2.2.2.2.2.2.2.2.2.2.2.2.2.2.2.2.2.2.1 s.2.2.2.2.2.2.2.2.2.2.2.2.2.2.2.2.2.2.2.2.2.2.2.2.2.1 s.2.2.2.2.2.2.2.2.2.2.2.2.2.2.2.2.2.2.2.2.2.2.2.2.2.2.1 s.2.2.2.2.2.2.2.2.2.2.2.2.2.2.2.2.2.2.2.2.2.2.2.2.2.2.2.1 (BitVec.toNat s.2.2.2.2.2.2.2.2.2.2.2.2.2.2.2.2.2.2.2.2.2.2.2.2.2.2.2.2.1 : Int) s.2.2.2.2.2.2.2.2.2.2.2.2.2.2.2.2.2.2.2.2.2.2.2.2.2.2.2.2.2 σ) (hp : 0 ≤ i) (hc : ((decide (i < uses.size))) = true) (hF : F (corralref1_row.bv9 uses i t140 t141 t142 t143 t144 t145 t146 t147 t148 t149 t1410 t1411 t1412 t1413 r0 r1 r2 r3 r4 r5 r6 r7 r8 r9 r10 r11 r12 r13)) : corralref1_row.b9 K rr9 uses i t140 t141 (BitVec.toNat t142 : Int) (BitVec.toNat t143 : Int) (BitVec.toNat t144 : Int) t145 t146 (BitVec.toNat t147 : Int) t148 t149 t1410 t1411 (BitVec.toNat t1412 : Int) t1413 r0 r1 (BitVec.toNat r2 : Int) (BitVec.toNat r3 : Int) (BitVec.toNat r4 : Int) r5 r6 (BitVec.toNat r7 : Int) r8 r9 r10 r11 (BitVec.toNat r12 : Int) r13 σ := by
  unfold corralref1_row.b9
  unfold corralref1_row.bv9 at hF
  try dsimp only at hF
  refine cond_t (hc) ?_
  refine rq (by (try clear hF); (try clear hk); (try clear hrr); (try simp only [IntKind.wrap_i64, wrap_u64_lit, decide_eq_true_eq, decide_eq_false_iff_not, Bool.and_eq_true, bne_iff_ne, beq_iff_eq, Bool.not_eq_true', Bool.not_eq_false', ne_eq, beq_eq_false_iff_ne, Int.not_lt, Int.not_le, Bool.false_eq_true, false_implies, true_implies] at *) <;> first | omega | (split <;> omega) | (simp_all; done) | (simp_all; omega)) ?_
  refine cond_v (F := F) (by simp only [beq_nat, beq_lit, ofInt_toNat, ofInt_toNat', ofInt_toInt, BitVec.setWidth_eq, lit_u, BitVec.reduceOfInt, BitVec.reduceToNat, Nat.reducePow, Nat.reduceMod, Int.cast_ofNat_Int, Int.natCast_zero, Int.natCast_one, Int.reduceLT, Int.reduceLE, Int.reducePow, and_self, Int.zero_sub, BitVec.zero_sub]) hF (fun h hF => ?_) (fun h hF => ?_)
  · skip
    exact hopI (hrr _ hF)
  · skip
    refine cond_v (F := F) (by simp only [beq_nat, beq_lit, ofInt_toNat, ofInt_toNat', ofInt_toInt, BitVec.setWidth_eq, lit_u, BitVec.reduceOfInt, BitVec.reduceToNat, Nat.reducePow, Nat.reduceMod, Int.cast_ofNat_Int, Int.natCast_zero, Int.natCast_one, Int.reduceLT, Int.reduceLE, Int.reducePow, and_self, Int.zero_sub, BitVec.zero_sub]) hF (fun h hF => ?_) (fun h hF => ?_)
    · skip
      exact hopI (hrr _ hF)
    · skip
      refine cond_v (F := F) (by simp only [beq_nat, beq_lit, ofInt_toNat, ofInt_toNat', ofInt_toInt, BitVec.setWidth_eq, lit_u, BitVec.reduceOfInt, BitVec.reduceToNat, Nat.reducePow, Nat.reduceMod, Int.cast_ofNat_Int, Int.natCast_zero, Int.natCast_one, Int.reduceLT, Int.reduceLE, Int.reducePow, and_self, Int.zero_sub, BitVec.zero_sub]) hF (fun h hF => ?_) (fun h hF => ?_)
      · skip
        exact hopI (hrr _ hF)
      · skip
        refine cond_v (F := F) (by simp only [beq_nat, beq_lit, ofInt_toNat, ofInt_toNat', ofInt_toInt, BitVec.setWidth_eq, lit_u, BitVec.reduceOfInt, BitVec.reduceToNat, Nat.reducePow, Nat.reduceMod, Int.cast_ofNat_Int, Int.natCast_zero, Int.natCast_one, Int.reduceLT, Int.reduceLE, Int.reducePow, and_self, Int.zero_sub, BitVec.zero_sub]) hF (fun h hF => ?_) (fun h hF => ?_)
        · skip
          exact hopI (hrr _ hF)
        · skip
          refine cond_v (F := F) (by simp only [beq_nat, beq_lit, ofInt_toNat, ofInt_toNat', ofInt_toInt, BitVec.setWidth_eq, lit_u, BitVec.reduceOfInt, BitVec.reduceToNat, Nat.reducePow, Nat.reduceMod, Int.cast_ofNat_Int, Int.natCast_zero, Int.natCast_one, Int.reduceLT, Int.reduceLE, Int.reducePow, and_self, Int.zero_sub, BitVec.zero_sub]) hF (fun h hF => ?_) (fun h hF => ?_)
          · skip
            exact hopI (hrr _ hF)
          · skip
            exact hopI (hrr _ hF)

/-! ### corralref1_Of -/
def corralref1_Of.v9 (t20 : Int) (t21 : ByteArray) (t22 : BitVec 32) (t23 : BitVec 32) (t24 : BitVec 32) (t25 : Bool) (t26 : Bool) (t27 : BitVec 8) (t28 : Bool) (t29 : Bool) (t210 : Bool) (t211 : Bool) (t212 : BitVec 32) (t213 : Bool) : Int × ByteArray × BitVec 32 × BitVec 32 × BitVec 32 × Bool × Bool × BitVec 8 × Bool × Bool × Bool × Bool × BitVec 32 × Bool × Bool :=
  (0, ByteArray.empty, 0#32, 0#32, 0#32, false, false, 0#8, false, false, false, false, 0#32, false, false)
theorem corralref1_Of.j9_v {K : Value → Store → Prop} {σ : Store} (F : (Int × ByteArray × BitVec 32 × BitVec 32 × BitVec 32 × Bool × Bool × BitVec 8 × Bool × Bool × Bool × Bool × BitVec 32 × Bool × Bool) → Prop) (t20 : Int) (t21 : ByteArray) (t22 : BitVec 32) (t23 : BitVec 32) (t24 : BitVec 32) (t25 : Bool) (t26 : Bool) (t27 : BitVec 8) (t28 : Bool) (t29 : Bool) (t210 : Bool) (t211 : Bool) (t212 : BitVec 32) (t213 : Bool) (hk : ∀ r, F r → K (.tuple #[.agg #[.int .i64 r.1, .string r.2.1, .int .u32 (BitVec.toNat r.2.2.1 : Int), .int .u32 (BitVec.toNat r.2.2.2.1 : Int), .int .u32 (BitVec.toNat r.2.2.2.2.1 : Int), .bool r.2.2.2.2.2.1, .bool r.2.2.2.2.2.2.1, .int .u8 (BitVec.toNat r.2.2.2.2.2.2.2.1 : Int), .bool r.2.2.2.2.2.2.2.2.1, .bool r.2.2.2.2.2.2.2.2.2.1, .bool r.2.2.2.2.2.2.2.2.2.2.1, .bool r.2.2.2.2.2.2.2.2.2.2.2.1, .int .u32 (BitVec.toNat r.2.2.2.2.2.2.2.2.2.2.2.2.1 : Int), .bool r.2.2.2.2.2.2.2.2.2.2.2.2.2.1], .bool r.2.2.2.2.2.2.2.2.2.2.2.2.2.2]) σ) (hF : F (corralref1_Of.v9 t20 t21 t22 t23 t24 t25 t26 t27 t28 t29 t210 t211 t212 t213)) : corralref1_Of.j9 K t20 t21 (BitVec.toNat t22 : Int) (BitVec.toNat t23 : Int) (BitVec.toNat t24 : Int) t25 t26 (BitVec.toNat t27 : Int) t28 t29 t210 t211 (BitVec.toNat t212 : Int) t213 σ := by
  unfold corralref1_Of.j9
  unfold corralref1_Of.v9 at hF
  try dsimp only at hF
  exact hk _ hF
def corralref1_Of.bv5 (op : Int) (lA : Option Addr) (lN : Nat) (lC : Nat) (i : Int) (t20 : Int) (t21 : ByteArray) (t22 : BitVec 32) (t23 : BitVec 32) (t24 : BitVec 32) (t25 : Bool) (t26 : Bool) (t27 : BitVec 8) (t28 : Bool) (t29 : Bool) (t210 : Bool) (t211 : Bool) (t212 : BitVec 32) (t213 : Bool) (t24_1 : Int) (t300 : Int) (t301 : ByteArray) (t302 : BitVec 32) (t303 : BitVec 32) (t304 : BitVec 32) (t305 : Bool) (t306 : Bool) (t307 : BitVec 8) (t308 : Bool) (t309 : Bool) (t3010 : Bool) (t3011 : Bool) (t3012 : BitVec 32) (t3013 : Bool) : (Int × ByteArray × BitVec 32 × BitVec 32 × BitVec 32 × Bool × Bool × BitVec 8 × Bool × Bool × Bool × Bool × BitVec 32 × Bool × Bool) ⊕ (Int × Int × Int × ByteArray × BitVec 32 × BitVec 32 × BitVec 32 × Bool × Bool × BitVec 8 × Bool × Bool × Bool × Bool × BitVec 32 × Bool) :=
  bif (t24_1 == op) then
    .inl (t300, t301, t302, t303, t304, t305, t306, t307, t308, t309, t3010, t3011, t3012, t3013, true)
  else
    .inr (op, (IntKind.wrap .i64 (i + 1)), t20, t21, t22, t23, t24, t25, t26, t27, t28, t29, t210, t211, t212, t213)
theorem corralref1_Of.b5_v {K : Value → Store → Prop} {σ : Store} {rr5 : corralref1_Of.R5} (F : ((Int × ByteArray × BitVec 32 × BitVec 32 × BitVec 32 × Bool × Bool × BitVec 8 × Bool × Bool × Bool × Bool × BitVec 32 × Bool × Bool) ⊕ (Int × Int × Int × ByteArray × BitVec 32 × BitVec 32 × BitVec 32 × Bool × Bool × BitVec 8 × Bool × Bool × Bool × Bool × BitVec 32 × Bool)) → Prop) (op : Int) (lA : Option Addr) (lN : Nat) (lC : Nat) (i : Int) (t20 : Int) (t21 : ByteArray) (t22 : BitVec 32) (t23 : BitVec 32) (t24 : BitVec 32) (t25 : Bool) (t26 : Bool) (t27 : BitVec 8) (t28 : Bool) (t29 : Bool) (t210 : Bool) (t211 : Bool) (t212 : BitVec 32) (t213 : Bool) (t24_1 : Int) (t300 : Int) (t301 : ByteArray) (t302 : BitVec 32) (t303 : BitVec 32) (t304 : BitVec 32) (t305 : Bool) (t306 : Bool) (t307 : BitVec 8) (t308 : Bool) (t309 : Bool) (t3010 : Bool) (t3011 : Bool) (t3012 : BitVec 32) (t3013 : Bool) (hk : ∀ r, F (.inl r) → K (.tuple #[.agg #[.int .i64 r.1, .string r.2.1, .int .u32 (BitVec.toNat r.2.2.1 : Int), .int .u32 (BitVec.toNat r.2.2.2.1 : Int), .int .u32 (BitVec.toNat r.2.2.2.2.1 : Int), .bool r.2.2.2.2.2.1, .bool r.2.2.2.2.2.2.1, .int .u8 (BitVec.toNat r.2.2.2.2.2.2.2.1 : Int), .bool r.2.2.2.2.2.2.2.2.1, .bool r.2.2.2.2.2.2.2.2.2.1, .bool r.2.2.2.2.2.2.2.2.2.2.1, .bool r.2.2.2.2.2.2.2.2.2.2.2.1, .int .u32 (BitVec.toNat r.2.2.2.2.2.2.2.2.2.2.2.2.1 : Int), .bool r.2.2.2.2.2.2.2.2.2.2.2.2.2.1], .bool r.2.2.2.2.2.2.2.2.2.2.2.2.2.2]) σ) (hrr : ∀ s, F (.inr s) → rr5 s.1 lA lN lC s.2.1 s.2.2.1 s.2.2.2.1 (BitVec.toNat s.2.2.2.2.1 : Int) (BitVec.toNat s.2.2.2.2.2.1 : Int) (BitVec.toNat s.2.2.2.2.2.2.1 : Int) s.2.2.2.2.2.2.2.1 s.2.2.2.2.2.2.2.2.1 (BitVec.toNat s.2.2.2.2.2.2.2.2.2.1 : Int) s.2.2.2.2.2.2.2.2.2.2.1 s.2.2.2.2.2.2.2.2.2.2.2.1 s.2.2.2.2.2.2.2.2.2.2.2.2.1 s.2.2.2.2.2.2.2.2.2.2.2.2.2.1 (BitVec.toNat s.2.2.2.2.2.2.2.2.2.2.2.2.2.2.1 : Int) s.2.2.2.2.2.2.2.2.2.2.2.2.2.2.2 σ) (hc : ((decide (i < ((lN : Nat) : Int)))) = true) (hr0 : ∀ Body : Nat → Nat → Prop, (∀ B O, cellAt σ B (O + i.toNat * 14) = some (.int .i64 t24_1) → Body B O) → Req ((decide (0 ≤ i)) && (decide (i < ((lN : Nat) : Int)))) (PtrNN lA Body)) (hr1 : ∀ Body : Nat → Nat → Prop, (∀ B O, cellsAt σ B (O + i.toNat * 14) 14 = some [.int .i64 t300, .string t301, .int .u32 (BitVec.toNat t302 : Int), .int .u32 (BitVec.toNat t303 : Int), .int .u32 (BitVec.toNat t304 : Int), .bool t305, .bool t306, .int .u8 (BitVec.toNat t307 : Int), .bool t308, .bool t309, .bool t3010, .bool t3011, .int .u32 (BitVec.toNat t3012 : Int), .bool t3013] → Body B O) → Req ((decide (0 ≤ i)) && (decide (i < ((lN : Nat) : Int)))) (PtrNN lA Body)) (hF : F (corralref1_Of.bv5 op lA lN lC i t20 t21 t22 t23 t24 t25 t26 t27 t28 t29 t210 t211 t212 t213 t24_1 t300 t301 t302 t303 t304 t305 t306 t307 t308 t309 t3010 t3011 t3012 t3013)) : corralref1_Of.b5 K rr5 op lA lN lC i t20 t21 (BitVec.toNat t22 : Int) (BitVec.toNat t23 : Int) (BitVec.toNat t24 : Int) t25 t26 (BitVec.toNat t27 : Int) t28 t29 t210 t211 (BitVec.toNat t212 : Int) t213 σ := by
  unfold corralref1_Of.b5
  unfold corralref1_Of.bv5 at hF
  try dsimp only at hF
  refine cond_t (hc) ?_
  refine hr0 _ fun B O hc => ⟨_, hc, ?_⟩
  refine cond_v (F := F) (rfl) hF (fun h hF => ?_) (fun h hF => ?_)
  · skip
    refine hr1 _ fun B O hc => ⟨_, _, _, _, _, _, _, _, _, _, _, _, _, _, hc, ?_⟩
    exact hk _ hF
  · skip
    exact hopI (hrr _ hF)

/-! ### isa_Op -/
def isa_Op.v7  : Int :=
  0
theorem isa_Op.j7_v {K : Value → Store → Prop} {σ : Store} (F : Int → Prop)  (hk : ∀ r, F r → K (.int .i64 r) σ) (hF : F (isa_Op.v7 )) : isa_Op.j7 K  σ := by
  unfold isa_Op.j7
  unfold isa_Op.v7 at hF
  try dsimp only at hF
  exact hk _ hF
def isa_Op.bv2 (name : ByteArray) (t5A : Option Addr) (t5N : Nat) (t5C : Nat) (t6 : Int) (t7 : Int) (t100 : Int) (t101 : ByteArray) (t102 : Int) (t103 : BitVec 32) (t104 : BitVec 32) (t105 : BitVec 32) (t106 : Int) : Int ⊕ (ByteArray × Int × Int) :=
  bif (t101.toList == name.toList) then
    .inl t100
  else
    .inr (name, t6, (IntKind.wrap .i64 (t7 + 1)))
theorem isa_Op.b2_v {K : Value → Store → Prop} {σ : Store} {rr2 : isa_Op.R2} (F : (Int ⊕ (ByteArray × Int × Int)) → Prop) (name : ByteArray) (t5A : Option Addr) (t5N : Nat) (t5C : Nat) (t6 : Int) (t7 : Int) (t100 : Int) (t101 : ByteArray) (t102 : Int) (t103 : BitVec 32) (t104 : BitVec 32) (t105 : BitVec 32) (t106 : Int) (hk : ∀ r, F (.inl r) → K (.int .i64 r) σ) (hrr : ∀ s, F (.inr s) → rr2 s.1 t5A t5N t5C s.2.1 s.2.2 σ) (hc : ((decide (t7 < t6))) = true) (hr0 : ∀ Body : Nat → Nat → Prop, (∀ B O, cellsAt σ B (O + t7.toNat * 7) 7 = some [.int .i64 t100, .string t101, .int .i64 t102, .int .u32 (BitVec.toNat t103 : Int), .int .u32 (BitVec.toNat t104 : Int), .int .u32 (BitVec.toNat t105 : Int), .int .i64 t106] → Body B O) → Req ((decide (0 ≤ t7)) && (decide (t7 < ((t5N : Nat) : Int)))) (PtrNN t5A Body)) (hF : F (isa_Op.bv2 name t5A t5N t5C t6 t7 t100 t101 t102 t103 t104 t105 t106)) : isa_Op.b2 K rr2 name t5A t5N t5C t6 t7 σ := by
  unfold isa_Op.b2
  unfold isa_Op.bv2 at hF
  try dsimp only at hF
  refine cond_t (hc) ?_
  refine hr0 _ fun B O hc => ⟨_, _, _, _, _, _, _, hc, ?_⟩
  refine cond_v (F := F) (rfl) hF (fun h hF => ?_) (fun h hF => ?_)
  · skip
    exact hk _ hF
  · skip
    exact hopI (hrr _ hF)

end Go.Ev
