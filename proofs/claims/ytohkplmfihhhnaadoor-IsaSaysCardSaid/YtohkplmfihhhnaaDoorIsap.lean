/-
  Any word's instruction, any instruction's word, or why it has none, are what the chapter says: IsaSays is true of every input; the errors of package api start as the program's text lays them.
  Conditions: none beyond the statement's own.
-/
import Derived.Test.YtohkplmfihhhnaaDoorRows
import Derived.Test.YtohkplmfihhhnaaDoorCards
import Derived.Test.YtohkplmfihhhnaaDoorTie
import Derived.Test.YtohkplmfihhhnaaDoorIsp4
import Derived.Test.YtohkplmfihhhnaaDoorLayW
import Derived.SevenTiedAt
import Derived.RowKit
namespace Go.Proofs.YtohkplmfihhhnaaDoor
open Go Go.Ev
open Go.ChangeShapes Go.WideShapes Go.RowKit

theorem own : ownKnob Tryd.prog.godebug = none := by kernel_rfl
theorem laidOut : laidOutB Tryd.prog = true := by kernel_rfl
theorem flatInst : flatK Tryd.prog 5 Ty.api_Inst = some [.i .i64, .i .i64, .i .i64, .i .i64, .i .i64, .i .u32, .b, .b] := by kernel_rfl

theorem u32_of {n : Int} (h : (Lit.int .u32 n).wf = true) : ∃ w : BitVec 32, n = (BitVec.toNat w : Int) := by
  refine ⟨BitVec.ofInt 32 n, lit_of ?_⟩
  have h : (decide (IntKind.u32.min ≤ n) && decide (n ≤ IntKind.u32.max)) = true := h
  simp only [Bool.and_eq_true, decide_eq_true_eq] at h
  have e1 : IntKind.u32.min = 0 := by rfl
  have e2 : IntKind.u32.max = 4294967295 := by rfl
  omega

theorem fits_inst {v : List Value} (h : Fits [.i .i64, .i .i64, .i .i64, .i .i64, .i .i64, .i .u32, .b, .b] v) :
    ∃ (i0 i1 i2 i3 i4 : Int) (i5 : BitVec 32) (i6 i7 : Bool), v = [.int .i64 i0, .int .i64 i1, .int .i64 i2, .int .i64 i3, .int .i64 i4, .int .u32 (BitVec.toNat i5 : Int), .bool i6, .bool i7] := by
  obtain ⟨_, _, rfl, ⟨a, rfl, _⟩, h1⟩ := h.cons
  obtain ⟨_, _, rfl, ⟨b, rfl, _⟩, h2⟩ := h1.cons
  obtain ⟨_, _, rfl, ⟨c, rfl, _⟩, h3⟩ := h2.cons
  obtain ⟨_, _, rfl, ⟨d, rfl, _⟩, h4⟩ := h3.cons
  obtain ⟨_, _, rfl, ⟨e, rfl, _⟩, h5⟩ := h4.cons
  obtain ⟨_, _, rfl, ⟨f, rfl, hf⟩, h6⟩ := h5.cons
  obtain ⟨_, _, rfl, ⟨g, rfl⟩, h7⟩ := h6.cons
  obtain ⟨_, _, rfl, ⟨i, rfl⟩, h8⟩ := h7.cons
  obtain ⟨w, rfl⟩ := u32_of hf
  exact ⟨a, b, c, d, e, w, g, i, by rw [h8.nil]⟩

theorem isaSays_walk (w : BitVec 32) (i0 i1 i2 i3 i4 : Int) (i5 : BitVec 32) (i6 i7 : Bool) (W : World) (hL : laidMet Tryd.prog laidAll W) :
    Calls Tryd.prog 3 #[.int .u32 (BitVec.toNat w : Int), .agg #[.int .i64 i0, .int .i64 i1, .int .i64 i2, .int .i64 i3, .int .i64 i4, .int .u32 (BitVec.toNat i5 : Int), .bool i6, .bool i7]] W
      fun e w' => e = .returned (.bool true) ∧ Below W.heap.size W w' := by
  obtain ⟨E, hE⟩ := errs_of_laid hL
  refine law_calls (args := [.int .u32 (BitVec.toNat w : Int), .agg #[.int .i64 i0, .int .i64 i1, .int .i64 i2, .int .i64 i3, .int .i64 i4, .int .u32 (BitVec.toNat i5 : Int), .bool i6, .bool i7]]) fun K hK => ?_
  have := corrallaw3_IsaSays.pur w i0 i1 i2 i3 i4 i5 i6 i7 (full W) hE K
  rw [isaSays_true] at this
  exact this (hK _ fun _ _ => rfl)

set_option maxRecDepth 100000 in
theorem isaSays_lifted (os : Os) (started : os.Started) (H : Type) (enc : TypeId × Value → H) :
    ReturnsInHanded {} Tryd.checked os 3 .any (fun w args => (Rows.isaSaysSpec.pre enc Tryd.prog Tryd.f3 [] false w args ∧ laidMet Tryd.prog laidAll w) ∧ sizedMet enc Tryd.prog Tryd.f3 (OpenSpec.ofChange Rows.isaSaysSpec) false w args)
      (Rows.isaSaysSpec.post enc Tryd.prog Tryd.f3 false true false false) := by
  refine returnsInHanded_of_change_and (C := Tryd.checked) (X := fun w _ => laidMet Tryd.prog laidAll w) (fun _ _ _ hh h => h.of_heap hh) own started (by kernel_rfl) Tryd.func3
    (ChangeSpec.witness_at (enc := enc) (C := Tryd.checked) (os := os) (X := fun w _ => laidMet Tryd.prog laidAll w) false (laidWorld os) #[.int .u32 0, .agg #[.int .i64 0, .int .i64 0, .int .i64 0, .int .i64 0, .int .i64 0, .int .u32 0, .bool false, .bool false]] 8 rfl (by kernel_rfl) (by kernel_rfl) (by kernel_rfl) (by kernel_rfl) (by kernel_rfl) (laidWorld_met os _)) ?_
  intro W base args ds gs before hval0 hW _ _ hL _
  have hval : ∀ (j : Nat) t v, Tryd.f3.params[j]? = some t → args[j]? = some v → Value.okWide Tryd.prog W .any base t v := hval0
  have hW' := hW
  obtain ⟨p, q, hA0, hV, rfl, hfz, hnd⟩ := hW
  have hA : DataW.TrodAll enc Tryd.prog W 0 (fun _ => true) true Tryd.f3.params.toList args.toList ds p := hA0
  rw [Tryd.params3] at hA hval
  obtain ⟨v0, vs0, d0, ds0, p0, q0, hargs, rfl, rfl, h0, r0⟩ := trodAll_cons hA
  obtain ⟨v1, vs1, d1, ds1, p1, q1, rfl, rfl, rfl, h1, r1⟩ := trodAll_cons r0
  obtain ⟨rfl, rfl, rfl⟩ := trodAll_nil r1
  obtain rfl : args = #[v0, v1] := by cases args; simp_all
  obtain ⟨rfl, rfl⟩ := trodVars_none hV
  have lt0 : ∀ x ∈ p0, x.block < W.heap.size := by obtain ⟨m, hm⟩ := h0; exact DataW.trod_lt m _ _ _ hm
  have lt1 : ∀ x ∈ p1, x.block < W.heap.size := by obtain ⟨m, hm⟩ := h1; exact DataW.trod_lt m _ _ _ hm
  have k0 := h0
  obtain ⟨a0, rfl, rfl, rfl, w0⟩ := open_int (t := Ty.uint32) (k := .u32) (by kernel_rfl) (hval 0 Ty.uint32 v0 rfl rfl) h0
  obtain ⟨w, rfl⟩ := u32_of w0
  obtain ⟨fs, hfs⟩ : ∃ fs, Tryd.prog.underlying Ty.api_Inst = some (.struct fs) := ⟨_, by first | exact Tryd.underlying24 | kernel_rfl⟩
  obtain ⟨c1, rfl, _⟩ := okWide_struct hfs (hval 1 Ty.api_Inst v1 rfl rfl)
  obtain ⟨i0, i1, i2, i3, i4, i5, i6, i7, hl1⟩ := fits_inst (open_plain flatInst h1)
  have hv1 : Value.agg c1 = .agg (List.toArray [.int .i64 i0, .int .i64 i1, .int .i64 i2, .int .i64 i3, .int .i64 i4, .int .u32 (BitVec.toNat i5 : Int), .bool i6, .bool i7]) := agg_of_cells hl1
  have wk := isaSays_walk w i0 i1 i2 i3 i4 i5 i6 i7 W hL
  rw [← hv1] at wk
  refine wk.mono fun e W' ⟨he, bel⟩ => ?_
  subst he
  exact ⟨_, rfl, _, _, _, [], _, [], hW', trodAll_mk1 (shut_bool (t := Ty.bool) (by kernel_rfl) _),
    (trodAll_cons_mk (Below.trod laidOut (by kernel_rfl) (of_decide_eq_true (by kernel_rfl)) k0 bel lt0)
    (trodAll_cons_mk (Below.trod laidOut (by kernel_rfl) (of_decide_eq_true (by kernel_rfl)) h1 bel lt1) trodAll_mk0)), rfl, bel.frame _, fun h => by cases h⟩

theorem isaSays_over : Rows.isaSaysRow.holds Tryd.pinned (OpenSpec.ofChange Rows.isaSaysSpec) :=
  OpenClaim.holds_of_wide 3 Tryd.f3 rfl rfl rfl rfl rfl rfl rfl ⟨rfl, rfl, rfl, rfl, rfl⟩ rfl rfl rfl rfl rfl (by kernel_rfl) Tryd.func3 (by kernel_rfl)
    (of_decide_eq_true (by kernel_rfl)) (by unfold Func.isWrapper; first | (rw [if_pos (by decide +kernel)]; kernel_rfl) | (rw [if_neg (by decide +kernel)]; exact ⟨rfl, rfl⟩))
    (fun os started H enc _ => isaSays_lifted os started H enc)

/-- The statement: the tied card. -/
theorem isaSays_proved : Rows.IsaSaysCardSaid :=
  Claim7.holds_tied_plain_at .later [] [.sentinel, .sentinel, .sentinel, .sentinel, .sentinel, .sentinel, .sentinel, .sentinel, .sentinel, .sentinel, .sentinel] true (true, "5f1a21d201288ecc2d3d00619626186c92add9af2401abb757af32152030f503") true
    isaSays_over (fun _ h => by cases h) (by kernel_rfl) (fun _ h => by cases h) isaSays_row_tie rfl ⟨rfl, rfl⟩ (by kernel_rfl) rfl
    (fun f fn hf hfn => by
      obtain rfl : f = 3 := Option.some.inj ((show Tryd.prog.funcNamed "corral/corrallaw3.IsaSays" = some 3 by kernel_rfl).symm.trans hf) |>.symm
      obtain rfl : fn = Tryd.f3 := (Option.some.inj (Tryd.func3.symm.trans hfn)).symm
      exact ⟨by kernel_rfl, fun j t ht => by
        rw [Tryd.params3] at ht
        have h3 : t = Ty.uint32 ∨ t = Ty.api_Inst := by
          rcases j with _ | _ | j
          · left; simpa using ht.symm
          · right; simpa using ht.symm
          · simp at ht
        rcases h3 with rfl | rfl
        · exact (show Tryd.prog.wantsStandIn Ty.uint32 = false by kernel_rfl)
        · exact (show Tryd.prog.wantsStandIn Ty.api_Inst = false by kernel_rfl)⟩)
    (by kernel_rfl)
#print axioms isaSays_proved
end Go.Proofs.YtohkplmfihhhnaaDoor
