import Derived.Test.YtohkplmfihhhnaaDoorIs2
set_option linter.unusedVariables false
set_option linter.unusedSimpArgs false
namespace Go.Ev
open Go
/-! ### isa_row_lay -/
def isa_row_lay.v (r0 : Int) (r1 : ByteArray) (r2 : Int) (r3 : BitVec 32) (r4 : BitVec 32) (r5 : BitVec 32) (r6 : Int) (imm : BitVec 32) : BitVec 32 × Bool :=
  bif (r2 == 5) then
    ((imm <<< 20), (decide (imm < 32#32)))
  else
    bif (r2 == 7) then
      ((imm <<< 20), (decide (imm < 256#32)))
    else
      bif (r2 == 11) then
        ((imm <<< 15), (decide (imm < 32#32)))
      else
        let c1 := isa_row_format.v r0 r1 r2 r3 r4 r5 r6
        let c2 := enc_Lay.v c1 imm
        (c2.1, c2.2)
theorem isa_row_lay.m_v {K : Value → Store → Prop} {σ : Store} (F : (BitVec 32 × Bool) → Prop) (r0 : Int) (r1 : ByteArray) (r2 : Int) (r3 : BitVec 32) (r4 : BitVec 32) (r5 : BitVec 32) (r6 : Int) (imm : BitVec 32) (hk : ∀ r, F r → K (.tuple #[.int .u32 (BitVec.toNat r.1 : Int), .bool r.2]) σ) (hF : F (isa_row_lay.v r0 r1 r2 r3 r4 r5 r6 imm)) : isa_row_lay.m K r0 r1 r2 (BitVec.toNat r3 : Int) (BitVec.toNat r4 : Int) (BitVec.toNat r5 : Int) r6 (BitVec.toNat imm : Int) σ := by
  unfold isa_row_lay.m
  unfold isa_row_lay.v at hF
  try dsimp only at hF
  refine cond_v (F := F) (rfl) hF (fun h hF => ?_) (fun h hF => ?_)
  · skip
    exact Eq.mp (by simp only [shl_u32, Int.toNat_natCast, Int.reduceToNat, lt_nat, lt_litR, lt_litL, ofInt_toNat, ofInt_toNat', ofInt_toInt, BitVec.setWidth_eq, lit_u, BitVec.reduceOfInt, BitVec.reduceToNat, Nat.reducePow, Nat.reduceMod, Int.cast_ofNat_Int, Int.natCast_zero, Int.natCast_one, Int.reduceLT, Int.reduceLE, Int.reducePow, and_self, Int.zero_sub, BitVec.zero_sub]) (hk _ hF)
  · skip
    refine cond_v (F := F) (rfl) hF (fun h hF => ?_) (fun h hF => ?_)
    · skip
      exact Eq.mp (by simp only [shl_u32, Int.toNat_natCast, Int.reduceToNat, lt_nat, lt_litR, lt_litL, ofInt_toNat, ofInt_toNat', ofInt_toInt, BitVec.setWidth_eq, lit_u, BitVec.reduceOfInt, BitVec.reduceToNat, Nat.reducePow, Nat.reduceMod, Int.cast_ofNat_Int, Int.natCast_zero, Int.natCast_one, Int.reduceLT, Int.reduceLE, Int.reducePow, and_self, Int.zero_sub, BitVec.zero_sub]) (hk _ hF)
    · skip
      refine cond_v (F := F) (rfl) hF (fun h hF => ?_) (fun h hF => ?_)
      · skip
        exact Eq.mp (by simp only [shl_u32, Int.toNat_natCast, Int.reduceToNat, lt_nat, lt_litR, lt_litL, ofInt_toNat, ofInt_toNat', ofInt_toInt, BitVec.setWidth_eq, lit_u, BitVec.reduceOfInt, BitVec.reduceToNat, Nat.reducePow, Nat.reduceMod, Int.cast_ofNat_Int, Int.natCast_zero, Int.natCast_one, Int.reduceLT, Int.reduceLE, Int.reducePow, and_self, Int.zero_sub, BitVec.zero_sub]) (hk _ hF)
      · skip
        refine Pur.use (isa_row_format.pur r0 r1 r2 r3 r4 r5 r6 σ) (rfl) ⟨_, rfl, ?_⟩
        refine Pur.use (enc_Lay.pur (isa_row_format.v r0 r1 r2 r3 r4 r5 r6) imm σ) (rfl) ⟨_, _, rfl, ?_⟩
        exact hk _ hF
theorem isa_row_lay.pur (r0 : Int) (r1 : ByteArray) (r2 : Int) (r3 : BitVec 32) (r4 : BitVec 32) (r5 : BitVec 32) (r6 : Int) (imm : BitVec 32) (σ : Store) : Pur Pr F.isa_row_lay [.agg #[.int .i64 r0, .string r1, .int .i64 r2, .int .u32 (BitVec.toNat r3 : Int), .int .u32 (BitVec.toNat r4 : Int), .int .u32 (BitVec.toNat r5 : Int), .int .i64 r6], .int .u32 (BitVec.toNat imm : Int)] σ (.tuple #[.int .u32 (BitVec.toNat ((isa_row_lay.v r0 r1 r2 r3 r4 r5 r6 imm).1) : Int), .bool ((isa_row_lay.v r0 r1 r2 r3 r4 r5 r6 imm).2)]) := fun K hK =>
  isa_row_lay.ok (isa_row_lay.m_v (fun r => K (.tuple #[.int .u32 (BitVec.toNat r.1 : Int), .bool r.2]) σ) r0 r1 r2 r3 r4 r5 r6 imm (fun _ h => h) hK)

/-! ### isa_Uses -/
def isa_Uses.v (op : Int) : Bool × Bool × Bool × Bool :=
  let c1 := isa_find.v op
  bif (!c1.2.2.2.2.2.2.2) then
    (false, false, false, false)
  else
    let c2 := isa_row_uses.v c1.1 c1.2.1 c1.2.2.1 c1.2.2.2.1 c1.2.2.2.2.1 c1.2.2.2.2.2.1 c1.2.2.2.2.2.2.1
    (c2.1, c2.2.1, c2.2.2.1, c2.2.2.2)
theorem isa_Uses.m_v {K : Value → Store → Prop} {σ : Store} (F : (Bool × Bool × Bool × Bool) → Prop) (op : Int) (hk : ∀ r, F r → K (.tuple #[.bool r.1, .bool r.2.1, .bool r.2.2.1, .bool r.2.2.2]) σ) (hF : F (isa_Uses.v op)) : isa_Uses.m K op σ := by
  unfold isa_Uses.m
  unfold isa_Uses.v at hF
  try dsimp only at hF
  refine Pur.use (isa_find.pur op σ) (rfl) ⟨_, _, _, _, _, _, _, _, rfl, ?_⟩
  refine cond_v (F := F) (rfl) hF (fun h hF => ?_) (fun h hF => ?_)
  · skip
    exact hk _ hF
  · skip
    refine Pur.use (isa_row_uses.pur ((isa_find.v op).1) ((isa_find.v op).2.1) ((isa_find.v op).2.2.1) ((isa_find.v op).2.2.2.1) ((isa_find.v op).2.2.2.2.1) ((isa_find.v op).2.2.2.2.2.1) ((isa_find.v op).2.2.2.2.2.2.1) σ) (rfl) ⟨_, _, _, _, rfl, ?_⟩
    exact hk _ hF
theorem isa_Uses.pur (op : Int) (σ : Store) : Pur Pr F.isa_Uses [.int .i64 op] σ (.tuple #[.bool ((isa_Uses.v op).1), .bool ((isa_Uses.v op).2.1), .bool ((isa_Uses.v op).2.2.1), .bool ((isa_Uses.v op).2.2.2)]) := fun K hK =>
  isa_Uses.ok (isa_Uses.m_v (fun r => K (.tuple #[.bool r.1, .bool r.2.1, .bool r.2.2.1, .bool r.2.2.2]) σ) op (fun _ h => h) hK)

/-! ### isa_Name -/
def isa_Name.v (op : Int) : ByteArray :=
  let c1 := isa_find.v op
  c1.2.1
theorem isa_Name.m_v {K : Value → Store → Prop} {σ : Store} (F : ByteArray → Prop) (op : Int) (hk : ∀ r, F r → K (.string r) σ) (hF : F (isa_Name.v op)) : isa_Name.m K op σ := by
  unfold isa_Name.m
  unfold isa_Name.v at hF
  try dsimp only at hF
  refine Pur.use (isa_find.pur op σ) (rfl) ⟨_, _, _, _, _, _, _, _, rfl, ?_⟩
  exact hk _ hF
theorem isa_Name.pur (op : Int) (σ : Store) : Pur Pr F.isa_Name [.int .i64 op] σ (.string ((isa_Name.v op))) := fun K hK =>
  isa_Name.ok (isa_Name.m_v (fun r => K (.string r) σ) op (fun _ h => h) hK)

/-! ### isa_Kind -/
def isa_Kind.v (op : Int) : Int :=
  let c1 := isa_find.v op
  c1.2.2.2.2.2.2.1
theorem isa_Kind.m_v {K : Value → Store → Prop} {σ : Store} (F : Int → Prop) (op : Int) (hk : ∀ r, F r → K (.int .i64 r) σ) (hF : F (isa_Kind.v op)) : isa_Kind.m K op σ := by
  unfold isa_Kind.m
  unfold isa_Kind.v at hF
  try dsimp only at hF
  refine Pur.use (isa_find.pur op σ) (rfl) ⟨_, _, _, _, _, _, _, _, rfl, ?_⟩
  exact hk _ hF
theorem isa_Kind.pur (op : Int) (σ : Store) : Pur Pr F.isa_Kind [.int .i64 op] σ (.int .i64 ((isa_Kind.v op))) := fun K hK =>
  isa_Kind.ok (isa_Kind.m_v (fun r => K (.int .i64 r) σ) op (fun _ h => h) hK)

end Go.Ev
