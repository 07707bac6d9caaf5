import Derived.Test.YtohkplmfihhhnaaDoorIs5
import Derived.Test.YtohkplmfihhhnaaDoorEr
set_option linter.unusedVariables false
set_option linter.unusedSimpArgs false
namespace Go.Ev
open Go
/-! ### corrallaw3_first -/
def corrallaw3_first.v  : Bool :=
  let c1 := isa_Decode.v 5243027#32
  let c2 := isa_Decode.v 0#32
  let c3 := isa_Encode.v 25 0 0 0 0 32#32 false false
  bif c1.2.2.2.2.2.2.2.2 then
    let c4 := corralref_SameInst.v c1.1 c1.2.1 c1.2.2.1 c1.2.2.2.1 c1.2.2.2.2.1 c1.2.2.2.2.2.1 c1.2.2.2.2.2.2.1 c1.2.2.2.2.2.2.2.1 19 1 0 0 0 5#32 false false
    bif c4 then
      bif (!c2.2.2.2.2.2.2.2.2) then
        let c5 := corralsee_Is.v c3.2 106
        c5
      else
        false
    else
      false
  else
    false
theorem corrallaw3_first.m_v {K : Value → Store → Prop} {σ : Store} {E : Nat → Nat × Nat} (hE : Errs σ E) (F : Bool → Prop)  (hk : ∀ r, F r → K (.bool r) σ) (hF : F (corrallaw3_first.v )) : corrallaw3_first.m K  σ := by
  unfold corrallaw3_first.m
  unfold corrallaw3_first.v at hF
  try dsimp only at hF
  refine Pur.use (isa_Decode.pur 5243027#32 σ) (rfl) ⟨_, _, _, _, _, _, _, _, _, rfl, ?_⟩
  refine Pur.use (isa_Decode.pur 0#32 σ) (rfl) ⟨_, _, _, _, _, _, _, _, _, rfl, ?_⟩
  refine Pur.use (isa_Encode.pur 25 0 0 0 0 32#32 false false σ hE) (rfl) ⟨_, _, rfl, ?_⟩
  refine cond_v (F := F) (rfl) hF (fun h hF => ?_) (fun h hF => ?_)
  · skip
    refine Pur.use (corralref_SameInst.pur ((isa_Decode.v 5243027#32).1) ((isa_Decode.v 5243027#32).2.1) ((isa_Decode.v 5243027#32).2.2.1) ((isa_Decode.v 5243027#32).2.2.2.1) ((isa_Decode.v 5243027#32).2.2.2.2.1) ((isa_Decode.v 5243027#32).2.2.2.2.2.1) ((isa_Decode.v 5243027#32).2.2.2.2.2.2.1) ((isa_Decode.v 5243027#32).2.2.2.2.2.2.2.1) 19 1 0 0 0 5#32 false false σ) (rfl) ⟨_, rfl, ?_⟩
    refine cond_v (F := F) (rfl) hF (fun h hF => ?_) (fun h hF => ?_)
    · skip
      refine cond_v (F := F) (rfl) hF (fun h hF => ?_) (fun h hF => ?_)
      · skip
        refine Pur.use (corralsee_Is.pur ((isa_Encode.v 25 0 0 0 0 32#32 false false).2) 106 σ hE) (rfl) ⟨_, rfl, ?_⟩
        exact hk _ hF
      · skip
        exact hk _ hF
    · skip
      exact hk _ hF
  · skip
    exact hk _ hF
theorem corrallaw3_first.pur  (σ : Store) {E : Nat → Nat × Nat} (hE : Errs σ E) : Pur Pr F.corrallaw3_first [] σ (.bool ((corrallaw3_first.v ))) := fun K hK =>
  corrallaw3_first.ok (corrallaw3_first.m_v hE (fun r => K (.bool r) σ)  (fun _ h => h) hK)

/-! ### corrallaw3_IsaSays -/
def corrallaw3_IsaSays.v (w : BitVec 32) (i0 : Int) (i1 : Int) (i2 : Int) (i3 : Int) (i4 : Int) (i5 : BitVec 32) (i6 : Bool) (i7 : Bool) : Bool :=
  let c1 := corrallaw3_first.v 
  bif (!c1) then
    false
  else
    let c2 := isa_Decode.v w
    let c3 := corralref1_Decode.v w
    let c4 := isa_Encode.v i0 i1 i2 i3 i4 i5 i6 i7
    let c5 := corralref1_Encode.v i0 i1 i2 i3 i4 i5 i6 i7
    bif c1 then
      bif (c2.2.2.2.2.2.2.2.2 == c3.2.2.2.2.2.2.2.2) then
        let c6 := corralref_SameInst.v c2.1 c2.2.1 c2.2.2.1 c2.2.2.2.1 c2.2.2.2.2.1 c2.2.2.2.2.2.1 c2.2.2.2.2.2.2.1 c2.2.2.2.2.2.2.2.1 c3.1 c3.2.1 c3.2.2.1 c3.2.2.2.1 c3.2.2.2.2.1 c3.2.2.2.2.2.1 c3.2.2.2.2.2.2.1 c3.2.2.2.2.2.2.2.1
        bif c6 then
          bif (c4.1 == c5.1) then
            let c7 := corralsee_Is.v c4.2 c5.2
            c7
          else
            false
        else
          false
      else
        false
    else
      false
theorem corrallaw3_IsaSays.m_v {K : Value → Store → Prop} {σ : Store} {E : Nat → Nat × Nat} (hE : Errs σ E) (F : Bool → Prop) (w : BitVec 32) (i0 : Int) (i1 : Int) (i2 : Int) (i3 : Int) (i4 : Int) (i5 : BitVec 32) (i6 : Bool) (i7 : Bool) (hk : ∀ r, F r → K (.bool r) σ) (hF : F (corrallaw3_IsaSays.v w i0 i1 i2 i3 i4 i5 i6 i7)) : corrallaw3_IsaSays.m K (BitVec.toNat w : Int) i0 i1 i2 i3 i4 (BitVec.toNat i5 : Int) i6 i7 σ := by
  unfold corrallaw3_IsaSays.m
  unfold corrallaw3_IsaSays.v at hF
  try dsimp only at hF
  refine Pur.use (corrallaw3_first.pur  σ hE) (rfl) ⟨_, rfl, ?_⟩
  refine cond_v (F := F) (rfl) hF (fun h hF => ?_) (fun h hF => ?_)
  · skip
    exact hk _ hF
  · skip
    refine Pur.use (isa_Decode.pur w σ) (rfl) ⟨_, _, _, _, _, _, _, _, _, rfl, ?_⟩
    refine Pur.use (corralref1_Decode.pur w σ) (rfl) ⟨_, _, _, _, _, _, _, _, _, rfl, ?_⟩
    refine Pur.use (isa_Encode.pur i0 i1 i2 i3 i4 i5 i6 i7 σ hE) (rfl) ⟨_, _, rfl, ?_⟩
    refine Pur.use (corralref1_Encode.pur i0 i1 i2 i3 i4 i5 i6 i7 σ) (rfl) ⟨_, _, rfl, ?_⟩
    refine cond_v (F := F) (rfl) hF (fun h hF => ?_) (fun h hF => ?_)
    · skip
      refine cond_v (F := F) (rfl) hF (fun h hF => ?_) (fun h hF => ?_)
      · skip
        refine Pur.use (corralref_SameInst.pur ((isa_Decode.v w).1) ((isa_Decode.v w).2.1) ((isa_Decode.v w).2.2.1) ((isa_Decode.v w).2.2.2.1) ((isa_Decode.v w).2.2.2.2.1) ((isa_Decode.v w).2.2.2.2.2.1) ((isa_Decode.v w).2.2.2.2.2.2.1) ((isa_Decode.v w).2.2.2.2.2.2.2.1) ((corralref1_Decode.v w).1) ((corralref1_Decode.v w).2.1) ((corralref1_Decode.v w).2.2.1) ((corralref1_Decode.v w).2.2.2.1) ((corralref1_Decode.v w).2.2.2.2.1) ((corralref1_Decode.v w).2.2.2.2.2.1) ((corralref1_Decode.v w).2.2.2.2.2.2.1) ((corralref1_Decode.v w).2.2.2.2.2.2.2.1) σ) (rfl) ⟨_, rfl, ?_⟩
        refine cond_v (F := F) (rfl) hF (fun h hF => ?_) (fun h hF => ?_)
        · skip
          refine cond_v (F := F) (by simp only [beq_nat, beq_lit, ofInt_toNat, ofInt_toNat', ofInt_toInt, BitVec.setWidth_eq, lit_u, BitVec.reduceOfInt, BitVec.reduceToNat, Nat.reducePow, Nat.reduceMod, Int.cast_ofNat_Int, Int.natCast_zero, Int.natCast_one, Int.reduceLT, Int.reduceLE, Int.reducePow, and_self, Int.zero_sub, BitVec.zero_sub, errO]) hF (fun h hF => ?_) (fun h hF => ?_)
          · skip
            refine Pur.use (corralsee_Is.pur ((isa_Encode.v i0 i1 i2 i3 i4 i5 i6 i7).2) ((corralref1_Encode.v i0 i1 i2 i3 i4 i5 i6 i7).2) σ hE) (rfl) ⟨_, rfl, ?_⟩
            exact hk _ hF
          · skip
            exact hk _ hF
        · skip
          exact hk _ hF
      · skip
        exact hk _ hF
    · skip
      exact hk _ hF
theorem corrallaw3_IsaSays.pur (w : BitVec 32) (i0 : Int) (i1 : Int) (i2 : Int) (i3 : Int) (i4 : Int) (i5 : BitVec 32) (i6 : Bool) (i7 : Bool) (σ : Store) {E : Nat → Nat × Nat} (hE : Errs σ E) : Pur Pr F.corrallaw3_IsaSays [.int .u32 (BitVec.toNat w : Int), .agg #[.int .i64 i0, .int .i64 i1, .int .i64 i2, .int .i64 i3, .int .i64 i4, .int .u32 (BitVec.toNat i5 : Int), .bool i6, .bool i7]] σ (.bool ((corrallaw3_IsaSays.v w i0 i1 i2 i3 i4 i5 i6 i7))) := fun K hK =>
  corrallaw3_IsaSays.ok (corrallaw3_IsaSays.m_v hE (fun r => K (.bool r) σ) w i0 i1 i2 i3 i4 i5 i6 i7 (fun _ h => h) hK)

end Go.Ev
