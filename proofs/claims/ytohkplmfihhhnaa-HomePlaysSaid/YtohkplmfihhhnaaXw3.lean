/-
  HomePlays: whatever it is given, it answers true.
  Conditions: none.
-/
import Derived.Test.YtohkplmfihhhnaaXw2
set_option linter.unusedVariables false
namespace Go.Ev.Hom
open Go

theorem new_R (line harts : Int) (d : L4) (h1 : 1 ≤ harts) (h4 : harts ≤ 4) : R (HM.new L4.z line harts d) (XM.new L4.z line harts d) := by
  have hl : (List.replicate harts.toNat false).length = harts.toNat := List.length_replicate
  have L := law' (l := List.replicate harts.toNat false) (r := 0) (by omega) (by omega) (by omega) (by show 0 < (List.replicate harts.toNat false).length; omega)
  have nil : tIdx 0 (List.replicate harts.toNat false) = [] := by have := L.nil; rw [hl] at this; exact this
  refine ⟨HM.new_wf L4.z line harts d h1 h4, rfl, rfl, rfl, rfl, nil.symm, rfl, nil.symm, rfl, fun h0 => ?_, fun _ => ?_, fun hb => (by cases hb), fun hb => (by cases hb), fun hb => (by cases hb), fun hb => (by cases hb)⟩
  · have h0' : (0 : Int) ≤ -1 := h0
    omega
  · show List.replicate harts.toNat false = List.replicate (List.replicate harts.toNat false).length false
    rw [hl]

theorem homePlays_spec {σ : Store} {lA : Option Addr} {lN lC : Nat} {ms : List (Msg L4)} (hms : IsL Msg.cells 11 σ lA lN ms) (line harts : Int) (d : L4) {K : Value → Store → Prop}
    (hK : ∀ σ', Same σ σ' → K (.bool true) σ') : Spec Pr F.corrallaw18_HomePlays [.int .i64 line, .int .i64 harts, d.agg, .slice lA lN lC] σ K := by
  refine corrallaw18_HomePlays.ok (first_spec fun σ1 k1 => ⟨_, rfl, cond_f rfl (number_spec harts fun t t0 t4 => ⟨_, rfl, cond_i (fun e => ?_) (fun e => cond_f rfl (hopI ?_))⟩)⟩)
  · exact hK σ1 k1.same
  simp at e
  rw [wrap_id (by omega) (by omega)]
  refine new_spec (σ := σ1) line (t + 1) d (by omega) (by omega) fun σ2 p s v H2 k2 fp fs fv => ⟨_, rfl, corralref18_NewHome.ok fun q hq => ⟨_, rfl, cond_f rfl (hopI ⟨ms.length + 1, ?_⟩)⟩⟩
  have k3 := newKept (σ := σ2) ⟨44, (XM.new L4.z line (t + 1) d).cells ⟨none, 0, 0⟩ ⟨none, 0, 0⟩, (0, 0)⟩ hq
  have f1 : ∀ b, σ1 b = none → σ b = none := by
    intro b hb
    cases e : σ b with
    | none => rfl
    | some x => exact absurd hb (k1.dom b (by rw [e]; simp))
  have f2 : ∀ b, σ2 b = none → σ1 b = none := by
    intro b hb
    cases e : σ1 b with
    | none => rfl
    | some x => exact absurd hb (k2.dom b (by rw [e]; simp))
  have ne : ∀ b, σ2 b ≠ none → q ≠ b := fun b hb e => hb (by rw [← e]; exact hq)
  have L : LP σ p s v q (σ2.set q ⟨44, (XM.new L4.z line (t + 1) d).cells ⟨none, 0, 0⟩ ⟨none, 0, 0⟩, (0, 0)⟩) (HM.new L4.z line (t + 1) d) (XM.new L4.z line (t + 1) d) ⟨none, 0, 0⟩ ⟨none, 0, 0⟩ := by
    refine ⟨H2.kept' k3, ⟨set_same _ _ _, IsA.nil _ _, IsA.nil _ _⟩, ⟨ne p H2.np, ne s H2.ns, ne v H2.nv⟩, fun b hb => ?_, f1 p fp, f1 s fs, f1 v fv, f1 q (f2 q hq)⟩
    rw [k3.same b (k2.dom b (k1.dom b hb)), k2.same b (k1.dom b hb), k1.same b hb]
  exact plays_loop hms (by have := hms.1; omega) hK ms.length 0 _ _ _ _ _ (Nat.zero_add _) L (new_R line (t + 1) d (by omega) (by omega))

end Go.Ev.Hom
