/-
  The home takes, of any messages, those that the chapter says, sends what it says, and knows whom it says: HomePlays is true of every input.
  Conditions: none beyond the statement's own.
-/
import Derived.Test.YtohkplmfihhhnaaRows
import Derived.Test.YtohkplmfihhhnaaXw3
import Derived.Test.YtohkplmfihhhnaaEv13
namespace Go.Proofs.Ytohkplmfihhhnaa
open Go Go.Ev Go.Ev.Hom
open Go.ChangeShapes Go.WideShapes Go.ChangeAt Go.RowKit

theorem own : ownKnob Try.prog.godebug = none := by kernel_rfl
theorem laidOut : laidOutB Try.prog = true := by kernel_rfl
theorem flat33 : flatK Try.prog 5 33 = some [.i .i64, .i .i64, .i .i64, .i .i64, .i .u32, .i .u32, .i .u32, .i .u32, .b, .b, .b] := by kernel_rfl
theorem flat25 : flatK Try.prog 5 25 = some [.i .u32, .i .u32, .i .u32, .i .u32] := by kernel_rfl

theorem fits_line {v : List Value} (h : Fits [.i .u32, .i .u32, .i .u32, .i .u32] v) : ∃ l : L4, v = l.cells := by
  obtain ⟨_, _, rfl, ⟨a, rfl, _⟩, h1⟩ := h.cons
  obtain ⟨_, _, rfl, ⟨b, rfl, _⟩, h2⟩ := h1.cons
  obtain ⟨_, _, rfl, ⟨c, rfl, _⟩, h3⟩ := h2.cons
  obtain ⟨_, _, rfl, ⟨d, rfl, _⟩, h4⟩ := h3.cons
  exact ⟨⟨a, b, c, d⟩, by rw [h4.nil]; rfl⟩

theorem fits_msg {v : List Value} (h : Fits [.i .i64, .i .i64, .i .i64, .i .i64, .i .u32, .i .u32, .i .u32, .i .u32, .b, .b, .b] v) : ∃ m : Msg L4, v = m.cells := by
  obtain ⟨_, _, rfl, ⟨a, rfl, _⟩, h1⟩ := h.cons
  obtain ⟨_, _, rfl, ⟨b, rfl, _⟩, h2⟩ := h1.cons
  obtain ⟨_, _, rfl, ⟨c, rfl, _⟩, h3⟩ := h2.cons
  obtain ⟨_, _, rfl, ⟨d, rfl, _⟩, h4⟩ := h3.cons
  obtain ⟨_, _, rfl, ⟨e, rfl, _⟩, h5⟩ := h4.cons
  obtain ⟨_, _, rfl, ⟨f, rfl, _⟩, h6⟩ := h5.cons
  obtain ⟨_, _, rfl, ⟨g, rfl, _⟩, h7⟩ := h6.cons
  obtain ⟨_, _, rfl, ⟨i, rfl, _⟩, h8⟩ := h7.cons
  obtain ⟨_, _, rfl, ⟨j, rfl⟩, h9⟩ := h8.cons
  obtain ⟨_, _, rfl, ⟨k, rfl⟩, h10⟩ := h9.cons
  obtain ⟨_, _, rfl, ⟨l, rfl⟩, h11⟩ := h10.cons
  exact ⟨⟨a, b, c, d, ⟨e, f, g, i⟩, j, k, l⟩, by rw [h11.nil]; rfl⟩

theorem homePlays_walk (line harts : Int) (d : L4) (a : Option Addr) (n c : Nat) (ms : List (Msg L4)) (W : World) (hms : IsL Msg.cells 11 (full W) a n ms) :
    Calls Try.prog 4 #[.int .i64 line, .int .i64 harts, d.agg, .slice a n c] W fun e w' => e = .returned (.bool true) ∧ Below W.heap.size W w' :=
  law_calls (args := [.int .i64 line, .int .i64 harts, d.agg, .slice a n c]) fun _ hK => homePlays_spec hms line harts d hK

set_option maxRecDepth 100000 in
theorem homePlays_lifted (os : Os) (started : os.Started) (H : Type) (enc : TypeId × Value → H) :
    ReturnsInHanded {} Try.checked os 4 .any (Rows.homePlaysSpec.pre6 enc Try.prog Try.f4 Rows.homePlaysRow.domain false) (Rows.homePlaysSpec.post enc Try.prog Try.f4 false true false false) := by
  refine returnsInHanded_of_change (C := Try.checked) own started (by kernel_rfl) Try.func4
    (ChangeSpec.witness6 (enc := enc) (C := Try.checked) false ⟨#[], #[.int .i64 0, .int .i64 0, .agg #[.int .u32 0, .int .u32 0, .int .u32 0, .int .u32 0], .slice none 0 0], []⟩ 8 (by kernel_rfl) (by kernel_rfl) (by kernel_rfl) (by kernel_rfl)) ?_
  intro W base args ds gs before hval0 hW hcnd _
  have hval : ∀ (j : Nat) t v, Try.f4.params[j]? = some t → args[j]? = some v → Value.okWide Try.prog W .any base t v := hval0
  have hW' := hW
  obtain ⟨p, q, hA0, hV, rfl, hfz, hnd⟩ := hW
  have hA : DataW.TrodAll enc Try.prog W 0 (fun _ => true) true Try.f4.params.toList args.toList ds p := hA0
  rw [Try.params4] at hA hval
  obtain ⟨v0, vs0, d0, ds0, p0, q0, hargs, rfl, rfl, h0, r0⟩ := trodAll_cons hA
  obtain ⟨v1, vs1, d1, ds1, p1, q1, rfl, rfl, rfl, h1, r1⟩ := trodAll_cons r0
  obtain ⟨v2, vs2, d2, ds2, p2, q2, rfl, rfl, rfl, h2, r2⟩ := trodAll_cons r1
  obtain ⟨v3, vs3, d3, ds3, p3, q3, rfl, rfl, rfl, h3, r3⟩ := trodAll_cons r2
  obtain ⟨rfl, rfl, rfl⟩ := trodAll_nil r3
  obtain rfl : args = #[v0, v1, v2, v3] := by cases args; simp_all
  obtain ⟨rfl, rfl⟩ := trodVars_none hV
  have lt0 : ∀ x ∈ p0, x.block < W.heap.size := by obtain ⟨m, hm⟩ := h0; exact DataW.trod_lt m _ _ _ hm
  have lt1 : ∀ x ∈ p1, x.block < W.heap.size := by obtain ⟨m, hm⟩ := h1; exact DataW.trod_lt m _ _ _ hm
  have lt2 : ∀ x ∈ p2, x.block < W.heap.size := by obtain ⟨m, hm⟩ := h2; exact DataW.trod_lt m _ _ _ hm
  have lt3 : ∀ x ∈ p3, x.block < W.heap.size := by obtain ⟨m, hm⟩ := h3; exact DataW.trod_lt m _ _ _ hm
  have k0 := h0
  have k1 := h1
  obtain ⟨a0, rfl, rfl, rfl, w0⟩ := open_int Try.underlying3 (hval 0 3 v0 rfl rfl) h0
  obtain ⟨a1, rfl, rfl, rfl, w1⟩ := open_int Try.underlying3 (hval 1 3 v1 rfl rfl) h1
  obtain ⟨c2, rfl⟩ := okWide_array Try.underlying25 (hval 2 25 v2 rfl rfl)
  obtain ⟨l, hl2⟩ := fits_line (open_plain flat25 h2)
  have hv2 : Value.agg c2 = l.agg := agg_of_cells hl2
  obtain ⟨a3, len3, cap3, rfl⟩ := okWide_slice Try.underlying30 (hval 3 30 v3 rfl rfl)
  obtain ⟨vs, hl, hfv⟩ := open_list Try.underlying30 flat33 (by kernel_rfl) (by decide) h3
  obtain ⟨ms, hms⟩ := name_list (enc' := Msg.cells) (fun v h => fits_msg h) hl hfv
  have wk := homePlays_walk a0 a1 l a3 len3 cap3 ms W hms
  rw [← hv2] at wk
  refine wk.mono fun e W' ⟨he, bel⟩ => ?_
  subst he
  exact ⟨_, rfl, _, _, _, [], _, [], hW', trodAll_mk1 (shut_bool Try.underlying4 _),
    (trodAll_cons_mk (Below.trod laidOut (by kernel_rfl) (of_decide_eq_true (by kernel_rfl)) k0 bel lt0)
    (trodAll_cons_mk (Below.trod laidOut (by kernel_rfl) (of_decide_eq_true (by kernel_rfl)) k1 bel lt1)
    (trodAll_cons_mk (Below.trod laidOut (by kernel_rfl) (of_decide_eq_true (by kernel_rfl)) h2 bel lt2)
    (trodAll_cons_mk (Below.trod laidOut (by kernel_rfl) (of_decide_eq_true (by kernel_rfl)) h3 bel lt3) trodAll_mk0)))), rfl, bel.frame _, fun h => by cases h⟩

theorem homePlays_over : Rows.homePlaysRow.holds Try.pinned (OpenSpec.ofChange Rows.homePlaysSpec) :=
  OpenClaim.holds_of_wide 4 Try.f4 rfl rfl rfl rfl rfl rfl rfl ⟨rfl, rfl, rfl, rfl, rfl⟩ rfl rfl rfl rfl rfl (by kernel_rfl) Try.func4 (by kernel_rfl)
    (of_decide_eq_true (by kernel_rfl)) (by unfold Func.isWrapper; first | (rw [if_pos (by decide +kernel)]; kernel_rfl) | (rw [if_neg (by decide +kernel)]; exact ⟨rfl, rfl⟩))
    (fun os started H enc _ => homePlays_lifted os started H enc)

/-- The statement. -/
theorem homePlays_proved : Rows.HomePlaysSaid := homePlays_over
#print axioms homePlays_proved
end Go.Proofs.Ytohkplmfihhhnaa
