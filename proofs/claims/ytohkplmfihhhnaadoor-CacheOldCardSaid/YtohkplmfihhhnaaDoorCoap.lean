/-
  Lines that are put and used in any order are given up in the order in which they were used last: CacheOld is true of every input; the errors of package api start as the program's text lays them.
  Conditions: none beyond the statement's own.
-/
import Derived.Test.YtohkplmfihhhnaaDoorRows
import Derived.Test.YtohkplmfihhhnaaDoorCards
import Derived.Test.YtohkplmfihhhnaaDoorTie
import Derived.Test.YtohkplmfihhhnaaDoorCo
import Derived.Test.YtohkplmfihhhnaaDoorLayWC
import Derived.SevenTiedAt
import Derived.RowKit
namespace Go.Proofs.YtohkplmfihhhnaaDoor
open Go Go.Ev
open Go.ChangeShapes Go.WideShapes Go.RowKit

theorem own : ownKnob Tryd.prog.godebug = none := by kernel_rfl
theorem laidOut : laidOutB Tryd.prog = true := by kernel_rfl
theorem flatInt : flatK Tryd.prog 6 Ty.int = some [.i .i64] := by kernel_rfl
theorem flatLine : flatK Tryd.prog 6 Ty.api_Line = some [.i .u32, .i .u32, .i .u32, .i .u32] := by kernel_rfl
theorem undInts : Tryd.prog.underlying Ty.S_int = some (.slice Ty.int) := by kernel_rfl
theorem undLine : Tryd.prog.underlying Ty.api_Line = some (.array 4 Ty.uint32) := by kernel_rfl

theorem fits_ints {v : List Value} (h : Fits [.i .i64] v) : ∃ x : Int, v = [Value.int .i64 x] := by
  obtain ⟨_, _, rfl, ⟨x, rfl, _⟩, h1⟩ := h.cons
  exact ⟨x, by rw [h1.nil]⟩

theorem fits_line {v : List Value} (h : Fits [.i .u32, .i .u32, .i .u32, .i .u32] v) : ∃ a b c d : Int, v = [.int .u32 a, .int .u32 b, .int .u32 c, .int .u32 d] := by
  obtain ⟨_, _, rfl, ⟨a, rfl, _⟩, h1⟩ := h.cons
  obtain ⟨_, _, rfl, ⟨b, rfl, _⟩, h2⟩ := h1.cons
  obtain ⟨_, _, rfl, ⟨c, rfl, _⟩, h3⟩ := h2.cons
  obtain ⟨_, _, rfl, ⟨d, rfl, _⟩, h4⟩ := h3.cons
  exact ⟨a, b, c, d, by rw [h4.nil]⟩

theorem cacheOld_walk (ways : Int) (a : Option Addr) (n c : Nat) (ls : List Int) (W : World) (hls : IsL iC 1 (full W) a n ls) (hL : laidMet Tryd.prog laidAll W) :
    Calls Tryd.prog 6 #[.int .i64 ways, .slice a n c] W
      fun e w' => e = .returned (.bool true) ∧ Below W.heap.size W w' := by
  obtain ⟨E, hE⟩ := errs_of_laid hL
  refine law_calls (args := [.int .i64 ways, .slice a n c]) fun K hK => ?_
  refine cacheOld_spec hE ways hls fun σ' hl => hK σ' fun b hb => ?_
  obtain ⟨k, hk⟩ := Option.ne_none_iff_exists'.1 hb
  rw [hl b k hk, hk]

set_option maxRecDepth 100000 in
theorem cacheOld_lifted (os : Os) (started : os.Started) (H : Type) (enc : TypeId × Value → H) :
    ReturnsInHanded {} Tryd.checked os 6 .any (fun w args => (Rows.cacheOldSpec.pre enc Tryd.prog Tryd.f6 [] false w args ∧ laidMet Tryd.prog laidAll w) ∧ sizedMet enc Tryd.prog Tryd.f6 (OpenSpec.ofChange Rows.cacheOldSpec) false w args)
      (Rows.cacheOldSpec.post enc Tryd.prog Tryd.f6 false true false false) := by
  refine returnsInHanded_of_change_and (C := Tryd.checked) (X := fun w _ => laidMet Tryd.prog laidAll w) (fun _ _ _ hh h => h.of_heap hh) own started (by kernel_rfl) Tryd.func6
    (ChangeSpec.witness_at (enc := enc) (C := Tryd.checked) (os := os) (X := fun w _ => laidMet Tryd.prog laidAll w) false (laidWorld os) #[.int .i64 0, .slice none 0 0] 8 rfl (by kernel_rfl) (by kernel_rfl) (by kernel_rfl) (by kernel_rfl) (by kernel_rfl) (laidWorld_met os _)) ?_
  intro W base args ds gs before hval0 hW _ _ hL _
  have hval : ∀ (j : Nat) t v, Tryd.f6.params[j]? = some t → args[j]? = some v → Value.okWide Tryd.prog W .any base t v := hval0
  have hW' := hW
  obtain ⟨p, q, hA0, hV, rfl, hfz, hnd⟩ := hW
  have hA : DataW.TrodAll enc Tryd.prog W 0 (fun _ => true) true Tryd.f6.params.toList args.toList ds p := hA0
  rw [Tryd.params6] at hA hval
  obtain ⟨v0, vs0, d0, ds0, p0, q0, hargs, rfl, rfl, h0, r0⟩ := trodAll_cons hA
  obtain ⟨v1, vs1, d1, ds1, p1, q1, rfl, rfl, rfl, h1, r1⟩ := trodAll_cons r0
  obtain ⟨rfl, rfl, rfl⟩ := trodAll_nil r1
  obtain rfl : args = #[v0, v1] := by cases args; simp_all
  obtain ⟨rfl, rfl⟩ := trodVars_none hV
  have lt0 : ∀ x ∈ p0, x.block < W.heap.size := by obtain ⟨m, hm⟩ := h0; exact DataW.trod_lt m _ _ _ hm
  have lt1 : ∀ x ∈ p1, x.block < W.heap.size := by obtain ⟨m, hm⟩ := h1; exact DataW.trod_lt m _ _ _ hm
  have k0 := h0
  obtain ⟨ways, rfl, rfl, rfl, w0⟩ := open_int (t := Ty.int) (k := .i64) (by kernel_rfl) (hval 0 Ty.int v0 rfl rfl) h0
  obtain ⟨a0, len0, cap0, rfl⟩ := okWide_slice undInts (hval 1 Ty.S_int v1 rfl rfl)
  obtain ⟨vs, hl, hfv⟩ := open_list undInts flatInt (by kernel_rfl) (by decide) h1
  obtain ⟨ws, hws⟩ := name_list (enc' := iC) (fun v h => fits_ints h) hl hfv
  have wk := cacheOld_walk ways a0 len0 cap0 ws W hws hL
  refine wk.mono fun e W' ⟨he, bel⟩ => ?_
  subst he
  exact ⟨_, rfl, _, _, _, [], _, [], hW', trodAll_mk1 (shut_bool (t := Ty.bool) (by kernel_rfl) _),
    (trodAll_cons_mk (Below.trod laidOut (by kernel_rfl) (of_decide_eq_true (by kernel_rfl)) k0 bel lt0)
    (trodAll_cons_mk (Below.trod laidOut (by kernel_rfl) (of_decide_eq_true (by kernel_rfl)) h1 bel lt1) trodAll_mk0)), rfl, bel.frame _, fun h => by cases h⟩

theorem cacheOld_over : Rows.cacheOldRow.holds Tryd.pinned (OpenSpec.ofChange Rows.cacheOldSpec) :=
  OpenClaim.holds_of_wide 6 Tryd.f6 rfl rfl rfl rfl rfl rfl rfl ⟨rfl, rfl, rfl, rfl, rfl⟩ rfl rfl rfl rfl rfl (by kernel_rfl) Tryd.func6 (by kernel_rfl)
    (of_decide_eq_true (by kernel_rfl)) (by unfold Func.isWrapper; first | (rw [if_pos (by decide +kernel)]; kernel_rfl) | (rw [if_neg (by decide +kernel)]; exact ⟨rfl, rfl⟩))
    (fun os started H enc _ => cacheOld_lifted os started H enc)

/-- The statement: the tied card. -/
theorem cacheOld_proved : Rows.CacheOldCardSaid :=
  Claim7.holds_tied_plain_at .later [] [.sentinel, .sentinel, .sentinel, .sentinel, .sentinel, .sentinel, .sentinel, .sentinel, .sentinel, .sentinel, .sentinel] true (true, "5f1a21d201288ecc2d3d00619626186c92add9af2401abb757af32152030f503") true
    cacheOld_over (fun _ h => by cases h) (by kernel_rfl) (fun _ h => by cases h) cacheOld_row_tie rfl ⟨rfl, rfl⟩ (by kernel_rfl) rfl
    (fun f fn hf hfn => by
      obtain rfl : f = 6 := Option.some.inj ((show Tryd.prog.funcNamed "corral/corrallaw17.CacheOld" = some 6 by kernel_rfl).symm.trans hf) |>.symm
      obtain rfl : fn = Tryd.f6 := (Option.some.inj (Tryd.func6.symm.trans hfn)).symm
      exact ⟨by kernel_rfl, fun j t ht => by
        rw [Tryd.params6] at ht
        have h3 : t = Ty.int ∨ t = Ty.S_int := by
          rcases j with _ | _ | j
          · left; simpa using ht.symm
          · right; simpa using ht.symm
          · simp at ht
        rcases h3 with rfl | rfl
        · exact (show Tryd.prog.wantsStandIn Ty.int = false by kernel_rfl)
        · exact (show Tryd.prog.wantsStandIn Ty.S_int = false by kernel_rfl)⟩)
    (by kernel_rfl)
#print axioms cacheOld_proved
end Go.Proofs.YtohkplmfihhhnaaDoor
