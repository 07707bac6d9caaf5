/-
  Pure calls: what is common.
  Conditions: none.
-/
import Derived.Test.YtohkplmfihhhnaaDoorN
import Derived.Test.YtohkplmfihhhnaaDoorEv14
set_option linter.unusedVariables false
namespace Go.Ev
open Go

theorem le_new {σ : Store} {b : Nat} (k : Blk) (hb : σ b = none) : σ.le (σ.set b k) := fun i x hi => by
  rw [set_diff (fun e => by rw [e, hb] at hi; cases hi)]; exact hi
theorem Store.le_rfl {σ : Store} : σ.le σ := fun _ _ h => h
theorem Store.le.trans {σ σ' σ'' : Store} (h : σ.le σ') (h' : σ'.le σ'') : σ.le σ'' := fun b k hb => h' b k (h b k hb)

theorem Pur.le {f : FuncId} {args : List Value} {σ : Store} {v : Value} (h : Spec Pr f args σ fun v' σ' => v' = v ∧ σ.le σ') : Pur Pr f args σ v :=
  fun K hK => Spec.shrink (h.mono fun _ _ ⟨e, hl⟩ => ⟨σ, hl, by rw [e]; exact hK⟩)

/-- What holds of a store holds of those that know more. -/
def KMono (K : Value → Store → Prop) : Prop := ∀ v σ σ', σ.le σ' → K v σ → K v σ'
theorem KMono.le (v : Value) (σ : Store) : KMono fun v' σ' => v' = v ∧ σ.le σ' := fun _ _ _ hl h => ⟨h.1, h.2.trans hl⟩

theorem IsL.new {α : Type} {enc : α → List Value} {esz : Nat} (he : ∀ x, (enc x).length = esz) {σ : Store} {b : Nat} {ty : TypeId} {fz : Nat × Nat} (xs : List α) {n : Nat} (hn : n = xs.length) {cs : List Value} (hc : cs = xs.flatMap enc) :
    IsL enc esz (σ.set b ⟨ty, cs, fz⟩) (some ⟨b, 0, none⟩) n xs := by
  subst hc
  refine ⟨hn, fun _ => ⟨b, 0, _, rfl, set_same _ _ _, ?_, ?_⟩⟩
  · show 0 + n * esz ≤ (xs.flatMap enc).length
    rw [flatMap_length he, hn]; omega
  · show ((xs.flatMap enc).drop 0).take (n * esz) = _
    rw [List.drop_zero, List.take_of_length_le (by rw [flatMap_length he, hn]; exact Nat.le_refl _)]

end Go.Ev
