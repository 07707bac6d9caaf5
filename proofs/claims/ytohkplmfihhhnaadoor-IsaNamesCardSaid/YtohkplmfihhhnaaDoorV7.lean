import Derived.Test.YtohkplmfihhhnaaDoorIs6
import Derived.Test.YtohkplmfihhhnaaDoorEr
set_option linter.unusedVariables false
set_option linter.unusedSimpArgs false
namespace Go.Ev
open Go
/-! ### corrallaw3_IsaNames -/
def corrallaw3_IsaNames.v (op : Int) (name : ByteArray) : Bool :=
  let c1 := corrallaw3_first.v 
  bif (!c1) then
    false
  else
    let c2 := corralref1_Of.v op
    let c3 := isa_Uses.v op
    let c4 := isa_Name.v op
    bif (!(c4.toList == c2.2.1.toList)) then
      false
    else
      let c5 := isa_Kind.v op
      let c6 := corralref1_Kind.v op
      bif (c5 != c6) then
        false
      else
        bif (!(c3.1 == c2.2.2.2.2.2.2.2.2.1)) then
          false
        else
          bif (!(c3.2.1 == c2.2.2.2.2.2.2.2.2.2.1)) then
            false
          else
            bif (!(c3.2.2.1 == c2.2.2.2.2.2.2.2.2.2.2.1)) then
              false
            else
              bif (!(c3.2.2.2 == (c2.2.2.2.2.2.2.2.1 != 0#8))) then
                false
              else
                corrallaw3_IsaNames.v8 op name c1 c2.2.2.2.2.2.2.2.2.2.2.2.2.2.2
theorem corrallaw3_IsaNames.m_v {K : Value → Store → Prop} {σ : Store} {E : Nat → Nat × Nat} (hE : Errs σ E) (hm : KMono K) (F : Bool → Prop) (op : Int) (name : ByteArray) (hk : ∀ r, F r → K (.bool r) σ) (hF : F (corrallaw3_IsaNames.v op name)) : corrallaw3_IsaNames.m K op name σ := by
  unfold corrallaw3_IsaNames.m
  unfold corrallaw3_IsaNames.v at hF
  try dsimp only at hF
  refine Pur.use (corrallaw3_first.pur  σ hE) (rfl) ⟨_, rfl, ?_⟩
  refine cond_v (F := F) (rfl) hF (fun h hF => ?_) (fun h hF => ?_)
  · skip
    exact hk _ hF
  · skip
    refine Pur.use (corralref1_Of.pur op σ) (rfl) ⟨_, _, _, _, _, _, _, _, _, _, _, _, _, _, _, rfl, ?_⟩
    refine Pur.use (isa_Uses.pur op σ) (rfl) ⟨_, _, _, _, rfl, ?_⟩
    refine Pur.use (isa_Name.pur op σ) (rfl) ⟨_, rfl, ?_⟩
    refine cond_v (F := F) (rfl) hF (fun h hF => ?_) (fun h hF => ?_)
    · skip
      exact hk _ hF
    · skip
      refine Pur.use (isa_Kind.pur op σ) (rfl) ⟨_, rfl, ?_⟩
      refine Pur.use (corralref1_Kind.pur op σ) (rfl) ⟨_, rfl, ?_⟩
      refine cond_v (F := F) (rfl) hF (fun h hF => ?_) (fun h hF => ?_)
      · skip
        exact hk _ hF
      · skip
        refine cond_v (F := F) (rfl) hF (fun h hF => ?_) (fun h hF => ?_)
        · skip
          exact hk _ hF
        · skip
          refine cond_v (F := F) (rfl) hF (fun h hF => ?_) (fun h hF => ?_)
          · skip
            exact hk _ hF
          · skip
            refine cond_v (F := F) (rfl) hF (fun h hF => ?_) (fun h hF => ?_)
            · skip
              exact hk _ hF
            · skip
              refine cond_v (F := F) (by simp only [bne_nat, bne_lit, beq_nat, beq_lit, ofInt_toNat, ofInt_toNat', ofInt_toInt, BitVec.setWidth_eq, lit_u, BitVec.reduceOfInt, BitVec.reduceToNat, Nat.reducePow, Nat.reduceMod, Int.cast_ofNat_Int, Int.natCast_zero, Int.natCast_one, Int.reduceLT, Int.reduceLE, Int.reducePow, and_self, Int.zero_sub, BitVec.zero_sub, errO]) hF (fun h hF => ?_) (fun h hF => ?_)
              · skip
                exact hk _ hF
              · skip
                exact hopI (corrallaw3_IsaNames.j8_v hE hm F op name (corrallaw3_first.v ) ((corralref1_Of.v op).2.2.2.2.2.2.2.2.2.2.2.2.2.2) hk hF)
theorem corrallaw3_IsaNames.pur (op : Int) (name : ByteArray) (σ : Store) {E : Nat → Nat × Nat} (hE : Errs σ E) : Pur Pr F.corrallaw3_IsaNames [.int .i64 op, .string name] σ (.bool ((corrallaw3_IsaNames.v op name))) :=
  Pur.le (corrallaw3_IsaNames.ok (corrallaw3_IsaNames.m_v (K := fun v σ_ => v = (.bool ((corrallaw3_IsaNames.v op name))) ∧ σ.le σ_) hE (KMono.le _ _) (fun r => r = (corrallaw3_IsaNames.v op name)) op name (fun r h => by subst h; exact ⟨rfl, Store.le_rfl⟩) rfl))

end Go.Ev
