import Derived.Test.YtohkplmfihhhnaaDoorV5
import Derived.Test.YtohkplmfihhhnaaDoorEr
set_option linter.unusedVariables false
set_option linter.unusedSimpArgs false
namespace Go.Ev
open Go
/-! ### corrallaw3_IsaNames -/
def corrallaw3_IsaNames.v15 (op : Int) (name : ByteArray) (ok : Bool) (is : Bool) (want : Int) : Bool :=
  bif ok then
    let c1 := isa_Op.v name
    bif (c1 == want) then
      bif (!is) then
        true
      else
        let c2 := isa_Name.v op
        let c3 := isa_Op.v c2
        (c3 == op)
    else
      false
  else
    false
theorem corrallaw3_IsaNames.j15_v {K : Value → Store → Prop} {σ : Store} {E : Nat → Nat × Nat} (hE : Errs σ E) (hm : KMono K) (F : Bool → Prop) (op : Int) (name : ByteArray) (ok : Bool) (is : Bool) (want : Int) (hk : ∀ r, F r → K (.bool r) σ) (hF : F (corrallaw3_IsaNames.v15 op name ok is want)) : corrallaw3_IsaNames.j15 K op name ok is want σ := by
  unfold corrallaw3_IsaNames.j15
  unfold corrallaw3_IsaNames.v15 at hF
  try dsimp only at hF
  refine cond_v (F := F) (rfl) hF (fun h hF => ?_) (fun h hF => ?_)
  · skip
    refine Pur.use (isa_Op.pur name σ) (rfl) ⟨_, rfl, ?_⟩
    refine cond_v (F := F) (rfl) hF (fun h hF => ?_) (fun h hF => ?_)
    · skip
      refine cond_v (F := F) (rfl) hF (fun h hF => ?_) (fun h hF => ?_)
      · skip
        exact hk _ hF
      · skip
        refine Pur.use (isa_Name.pur op σ) (rfl) ⟨_, rfl, ?_⟩
        refine Pur.use (isa_Op.pur (isa_Name.v op) σ) (rfl) ⟨_, rfl, ?_⟩
        exact hk _ hF
    · skip
      exact hk _ hF
  · skip
    exact hk _ hF
def corrallaw3_IsaNames.bv11 (op : Int) (name : ByteArray) (ok : Bool) (is : Bool) (want : Int) (lA : Option Addr) (lN : Nat) (lC : Nat) (i : Int) (t78 : ByteArray) (t85 : Int) : Bool ⊕ (Int × ByteArray × Bool × Bool × Int × Int) :=
  bif (t78.toList == name.toList) then
    .inr (op, name, ok, is, t85, (IntKind.wrap .i64 (i + 1)))
  else
    .inr (op, name, ok, is, want, (IntKind.wrap .i64 (i + 1)))
theorem corrallaw3_IsaNames.b11_v {K : Value → Store → Prop} {σ : Store} {E : Nat → Nat × Nat} (hE : Errs σ E) (hm : KMono K) {rr11 : corrallaw3_IsaNames.R11} (F : (Bool ⊕ (Int × ByteArray × Bool × Bool × Int × Int)) → Prop) (op : Int) (name : ByteArray) (ok : Bool) (is : Bool) (want : Int) (lA : Option Addr) (lN : Nat) (lC : Nat) (i : Int) (t78 : ByteArray) (t85 : Int) (hk : ∀ r, F (.inl r) → K (.bool r) σ) (hrr : ∀ s, F (.inr s) → rr11 s.1 s.2.1 s.2.2.1 s.2.2.2.1 s.2.2.2.2.1 lA lN lC s.2.2.2.2.2 σ) (hc : ((decide (i < ((lN : Nat) : Int)))) = true) (hr0 : ∀ Body : Nat → Nat → Prop, (∀ B O, cellAt σ B (O + i.toNat * 14 + 1) = some (.string t78) → Body B O) → Req ((decide (0 ≤ i)) && (decide (i < ((lN : Nat) : Int)))) (PtrNN lA Body)) (hr1 : ∀ Body : Nat → Nat → Prop, (∀ B O, cellAt σ B (O + i.toNat * 14) = some (.int .i64 t85) → Body B O) → Req ((decide (0 ≤ i)) && (decide (i < ((lN : Nat) : Int)))) (PtrNN lA Body)) (hF : F (corrallaw3_IsaNames.bv11 op name ok is want lA lN lC i t78 t85)) : corrallaw3_IsaNames.b11 K rr11 op name ok is want lA lN lC i σ := by
  unfold corrallaw3_IsaNames.b11
  unfold corrallaw3_IsaNames.bv11 at hF
  try dsimp only at hF
  refine cond_t (hc) ?_
  refine hr0 _ fun B O hc => ⟨_, hc, ?_⟩
  refine cond_v (F := F) (rfl) hF (fun h hF => ?_) (fun h hF => ?_)
  · skip
    refine hr1 _ fun B O hc => ⟨_, hc, ?_⟩
    exact hopI (hrr _ hF)
  · skip
    exact hopI (hrr _ hF)

end Go.Ev
