/-
  Names, kinds, and which fields an op uses, are what the chapter says, of any number and any name: IsaNames is true of every input; the errors of package api start as the program's text lays them.
  Conditions: none beyond the statement's own.
-/
import Derived.Test.YtohkplmfihhhnaaDoorRows
import Derived.Test.YtohkplmfihhhnaaDoorCards
import Derived.Test.YtohkplmfihhhnaaDoorTie
import Derived.Test.YtohkplmfihhhnaaDoorIsn
import Derived.Test.YtohkplmfihhhnaaDoorLayW
import Derived.SevenTiedAt
import Derived.RowKit
namespace Go.Proofs.YtohkplmfihhhnaaDoor
open Go Go.Ev
open Go.ChangeShapes Go.WideShapes Go.RowKit

theorem own : ownKnob Tryd.prog.godebug = none := by kernel_rfl
theorem laidOut : laidOutB Tryd.prog = true := by kernel_rfl
theorem isaNames_walk (op : Int) (name : ByteArray) (W : World) (hL : laidMet Tryd.prog laidAll W) :
    Calls Tryd.prog 4 #[.int .i64 op, .string name] W
      fun e w' => e = .returned (.bool true) ∧ Below W.heap.size W w' := by
  obtain ⟨E, hE⟩ := errs_of_laid hL
  refine law_calls (args := [.int .i64 op, .string name]) fun K hK => ?_
  have := corrallaw3_IsaNames.pur op name (full W) hE K
  rw [isaNames_true] at this
  exact this (hK _ fun _ _ => rfl)

set_option maxRecDepth 100000 in
theorem isaNames_lifted (os : Os) (started : os.Started) (H : Type) (enc : TypeId × Value → H) :
    ReturnsInHanded {} Tryd.checked os 4 .any (fun w args => (Rows.isaNamesSpec.pre enc Tryd.prog Tryd.f4 [] false w args ∧ laidMet Tryd.prog laidAll w) ∧ sizedMet enc Tryd.prog Tryd.f4 (OpenSpec.ofChange Rows.isaNamesSpec) false w args)
      (Rows.isaNamesSpec.post enc Tryd.prog Tryd.f4 false true false false) := by
  refine returnsInHanded_of_change_and (C := Tryd.checked) (X := fun w _ => laidMet Tryd.prog laidAll w) (fun _ _ _ hh h => h.of_heap hh) own started (by kernel_rfl) Tryd.func4
    (ChangeSpec.witness_at (enc := enc) (C := Tryd.checked) (os := os) (X := fun w _ => laidMet Tryd.prog laidAll w) false (laidWorld os) #[.int .i64 0, .string ByteArray.empty] 8 rfl (by kernel_rfl) (by kernel_rfl) (by kernel_rfl) (by kernel_rfl) (by kernel_rfl) (laidWorld_met os _)) ?_
  intro W base args ds gs before hval0 hW _ _ hL _
  have hval : ∀ (j : Nat) t v, Tryd.f4.params[j]? = some t → args[j]? = some v → Value.okWide Tryd.prog W .any base t v := hval0
  have hW' := hW
  obtain ⟨p, q, hA0, hV, rfl, hfz, hnd⟩ := hW
  have hA : DataW.TrodAll enc Tryd.prog W 0 (fun _ => true) true Tryd.f4.params.toList args.toList ds p := hA0
  rw [Tryd.params4] at hA hval
  obtain ⟨v0, vs0, d0, ds0, p0, q0, hargs, rfl, rfl, h0, r0⟩ := trodAll_cons hA
  obtain ⟨v1, vs1, d1, ds1, p1, q1, rfl, rfl, rfl, h1, r1⟩ := trodAll_cons r0
  obtain ⟨rfl, rfl, rfl⟩ := trodAll_nil r1
  obtain rfl : args = #[v0, v1] := by cases args; simp_all
  obtain ⟨rfl, rfl⟩ := trodVars_none hV
  have lt0 : ∀ x ∈ p0, x.block < W.heap.size := by obtain ⟨m, hm⟩ := h0; exact DataW.trod_lt m _ _ _ hm
  have lt1 : ∀ x ∈ p1, x.block < W.heap.size := by obtain ⟨m, hm⟩ := h1; exact DataW.trod_lt m _ _ _ hm
  have k0 := h0
  obtain ⟨op, rfl, rfl, rfl, w0⟩ := open_int (t := Ty.int) (k := .i64) (by kernel_rfl) (hval 0 Ty.int v0 rfl rfl) h0
  obtain ⟨name, rfl⟩ := okWide_string (t := Ty.string) (by kernel_rfl) (hval 1 Ty.string v1 rfl rfl)
  have wk := isaNames_walk op name W hL
  refine wk.mono fun e W' ⟨he, bel⟩ => ?_
  subst he
  exact ⟨_, rfl, _, _, _, [], _, [], hW', trodAll_mk1 (shut_bool (t := Ty.bool) (by kernel_rfl) _),
    (trodAll_cons_mk (Below.trod laidOut (by kernel_rfl) (of_decide_eq_true (by kernel_rfl)) k0 bel lt0)
    (trodAll_cons_mk (Below.trod laidOut (by kernel_rfl) (of_decide_eq_true (by kernel_rfl)) h1 bel lt1) trodAll_mk0)), rfl, bel.frame _, fun h => by cases h⟩

theorem isaNames_over : Rows.isaNamesRow.holds Tryd.pinned (OpenSpec.ofChange Rows.isaNamesSpec) :=
  OpenClaim.holds_of_wide 4 Tryd.f4 rfl rfl rfl rfl rfl rfl rfl ⟨rfl, rfl, rfl, rfl, rfl⟩ rfl rfl rfl rfl rfl (by kernel_rfl) Tryd.func4 (by kernel_rfl)
    (of_decide_eq_true (by kernel_rfl)) (by unfold Func.isWrapper; first | (rw [if_pos (by decide +kernel)]; kernel_rfl) | (rw [if_neg (by decide +kernel)]; exact ⟨rfl, rfl⟩))
    (fun os started H enc _ => isaNames_lifted os started H enc)

/-- The statement: the tied card. -/
theorem isaNames_proved : Rows.IsaNamesCardSaid :=
  Claim7.holds_tied_plain_at .later [] [.sentinel, .sentinel, .sentinel, .sentinel, .sentinel, .sentinel, .sentinel, .sentinel, .sentinel, .sentinel, .sentinel] true (true, "5f1a21d201288ecc2d3d00619626186c92add9af2401abb757af32152030f503") true
    isaNames_over (fun _ h => by cases h) (by kernel_rfl) (fun _ h => by cases h) isaNames_row_tie rfl ⟨rfl, rfl⟩ (by kernel_rfl) rfl
    (fun f fn hf hfn => by
      obtain rfl : f = 4 := Option.some.inj ((show Tryd.prog.funcNamed "corral/corrallaw3.IsaNames" = some 4 by kernel_rfl).symm.trans hf) |>.symm
      obtain rfl : fn = Tryd.f4 := (Option.some.inj (Tryd.func4.symm.trans hfn)).symm
      exact ⟨by kernel_rfl, fun j t ht => by
        rw [Tryd.params4] at ht
        have h3 : t = Ty.int ∨ t = Ty.string := by
          rcases j with _ | _ | j
          · left; simpa using ht.symm
          · right; simpa using ht.symm
          · simp at ht
        rcases h3 with rfl | rfl
        · exact (show Tryd.prog.wantsStandIn Ty.int = false by kernel_rfl)
        · exact (show Tryd.prog.wantsStandIn Ty.string = false by kernel_rfl)⟩)
    (by kernel_rfl)
#print axioms isaNames_proved
end Go.Proofs.YtohkplmfihhhnaaDoor
