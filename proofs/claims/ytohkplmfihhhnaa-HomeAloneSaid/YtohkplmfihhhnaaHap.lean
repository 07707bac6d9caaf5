/-
  Whoever asks the home, in turn, and answers as told, ends up with what was asked for: HomeAlone is true of every input.
  Conditions: none beyond the statement's own.
-/
import Derived.Test.YtohkplmfihhhnaaRows
import Derived.Test.YtohkplmfihhhnaaHw3
import Derived.Test.YtohkplmfihhhnaaEv13
namespace Go.Proofs.Ytohkplmfihhhnaa
open Go Go.Ev Go.Ev.Hom
open Go.ChangeShapes Go.WideShapes Go.ChangeAt Go.RowKit

theorem own : ownKnob Try.prog.godebug = none := by kernel_rfl
theorem laidOut : laidOutB Try.prog = true := by kernel_rfl
theorem flat3 : flatK Try.prog 5 3 = some [.i .i64] := by kernel_rfl
theorem flat25 : flatK Try.prog 5 25 = some [.i .u32, .i .u32, .i .u32, .i .u32] := by kernel_rfl

theorem fits_ints {v : List Value} (h : Fits [.i .i64] v) : ∃ x : Int, v = [Value.int .i64 x] := by
  obtain ⟨_, _, rfl, ⟨x, rfl, _⟩, h1⟩ := h.cons
  exact ⟨x, by rw [h1.nil]⟩

theorem fits_line {v : List Value} (h : Fits [.i .u32, .i .u32, .i .u32, .i .u32] v) : ∃ l : L4, v = l.cells := by
  obtain ⟨_, _, rfl, ⟨a, rfl, _⟩, h1⟩ := h.cons
  obtain ⟨_, _, rfl, ⟨b, rfl, _⟩, h2⟩ := h1.cons
  obtain ⟨_, _, rfl, ⟨c, rfl, _⟩, h3⟩ := h2.cons
  obtain ⟨_, _, rfl, ⟨d, rfl, _⟩, h4⟩ := h3.cons
  exact ⟨⟨a, b, c, d⟩, by rw [h4.nil]; rfl⟩

theorem homeAlone_walk (a : Option Addr) (n c : Nat) (ws : List Int) (d : L4) (W : World) (hws : IsL (fun x => [Value.int .i64 x]) 1 (full W) a n ws) :
    Calls Try.prog 3 #[.slice a n c, d.agg] W fun e w' => e = .returned (.bool true) ∧ Below W.heap.size W w' :=
  law_calls (args := [.slice a n c, d.agg]) fun _ hK => homeAlone_spec hws d fun σ' hs _ => hK σ' hs

set_option maxRecDepth 100000 in
theorem homeAlone_lifted (os : Os) (started : os.Started) (H : Type) (enc : TypeId × Value → H) :
    ReturnsInHanded {} Try.checked os 3 .any (Rows.homeAloneSpec.pre6 enc Try.prog Try.f3 Rows.homeAloneRow.domain false) (Rows.homeAloneSpec.post enc Try.prog Try.f3 false true false false) := by
  refine returnsInHanded_of_change (C := Try.checked) own started (by kernel_rfl) Try.func3
    (ChangeSpec.witness6 (enc := enc) (C := Try.checked) false ⟨#[], #[.slice none 0 0, .agg #[.int .u32 0, .int .u32 0, .int .u32 0, .int .u32 0]], []⟩ 8 (by kernel_rfl) (by kernel_rfl) (by kernel_rfl) (by kernel_rfl)) ?_
  intro W base args ds gs before hval0 hW hcnd _
  have hval : ∀ (j : Nat) t v, Try.f3.params[j]? = some t → args[j]? = some v → Value.okWide Try.prog W .any base t v := hval0
  have hW' := hW
  obtain ⟨p, q, hA0, hV, rfl, hfz, hnd⟩ := hW
  have hA : DataW.TrodAll enc Try.prog W 0 (fun _ => true) true Try.f3.params.toList args.toList ds p := hA0
  rw [Try.params3] at hA hval
  obtain ⟨v0, vs0, d0, ds0, p0, q0, hargs, rfl, rfl, h0, r0⟩ := trodAll_cons hA
  obtain ⟨v1, vs1, d1, ds1, p1, q1, rfl, rfl, rfl, h1, r1⟩ := trodAll_cons r0
  obtain ⟨rfl, rfl, rfl⟩ := trodAll_nil r1
  obtain rfl : args = #[v0, v1] := by cases args; simp_all
  obtain ⟨rfl, rfl⟩ := trodVars_none hV
  have lt0 : ∀ x ∈ p0, x.block < W.heap.size := by obtain ⟨m, hm⟩ := h0; exact DataW.trod_lt m _ _ _ hm
  have lt1 : ∀ x ∈ p1, x.block < W.heap.size := by obtain ⟨m, hm⟩ := h1; exact DataW.trod_lt m _ _ _ hm
  obtain ⟨a0, len0, cap0, rfl⟩ := okWide_slice Try.underlying22 (hval 0 22 v0 rfl rfl)
  obtain ⟨vs, hl, hfv⟩ := open_list Try.underlying22 flat3 (by kernel_rfl) (by decide) h0
  obtain ⟨ws, hws⟩ := name_list (enc' := fun x => [Value.int .i64 x]) (fun v h => fits_ints h) hl hfv
  obtain ⟨c1, rfl⟩ := okWide_array Try.underlying25 (hval 1 25 v1 rfl rfl)
  obtain ⟨l, hl1⟩ := fits_line (open_plain flat25 h1)
  have hv1 : Value.agg c1 = l.agg := agg_of_cells hl1
  have wk := homeAlone_walk a0 len0 cap0 ws l W hws
  rw [← hv1] at wk
  refine wk.mono fun e W' ⟨he, bel⟩ => ?_
  subst he
  exact ⟨_, rfl, _, _, _, [], _, [], hW', trodAll_mk1 (shut_bool Try.underlying4 _), (trodAll_cons_mk (Below.trod laidOut (by kernel_rfl) (of_decide_eq_true (by kernel_rfl)) h0 bel lt0) (trodAll_cons_mk (Below.trod laidOut (by kernel_rfl) (of_decide_eq_true (by kernel_rfl)) h1 bel lt1) trodAll_mk0)), rfl, bel.frame _, fun h => by cases h⟩

theorem homeAlone_over : Rows.homeAloneRow.holds Try.pinned (OpenSpec.ofChange Rows.homeAloneSpec) :=
  OpenClaim.holds_of_wide 3 Try.f3 rfl rfl rfl rfl rfl rfl rfl ⟨rfl, rfl, rfl, rfl, rfl⟩ rfl rfl rfl rfl rfl (by kernel_rfl) Try.func3 (by kernel_rfl)
    (of_decide_eq_true (by kernel_rfl)) (by unfold Func.isWrapper; first | (rw [if_pos (by decide +kernel)]; kernel_rfl) | (rw [if_neg (by decide +kernel)]; exact ⟨rfl, rfl⟩))
    (fun os started H enc _ => homeAlone_lifted os started H enc)

/-- The statement. -/
theorem homeAlone_proved : Rows.HomeAloneSaid := homeAlone_over
#print axioms homeAlone_proved
end Go.Proofs.Ytohkplmfihhhnaa
