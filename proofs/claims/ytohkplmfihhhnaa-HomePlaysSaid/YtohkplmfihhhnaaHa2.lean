/-
  Whoever asks, in turn: one wish, of any data.
  Conditions: none.
-/
import Derived.Test.YtohkplmfihhhnaaHa
set_option linter.unusedVariables false
namespace Go.Ev.Hom
open Go

variable {δ : Type}

/-- What holds between wishes. -/
def Inv (h : HM δ) (st : List Int) (now : δ) : Prop := restOk h st = true ∧ (h.data = now ∨ dirtySt st = true)

theorem cfg_mem {o : Int} {sh : List Bool} {st : List Int} (h : cfg.contains (o, sh, st) = true) : (o, sh, st) ∈ cfg := by
  simpa using h

theorem restOk_map {ε : Type} (f : δ → ε) (h : HM δ) (st : List Int) : restOk (h.map f) st = restOk h st := rfl

theorem rest_eq {z : δ} {h : HM δ} {st : List Int} (hr : restOk h st = true) (r : Int) (hr0 : 0 ≤ r) (hr4 : r < 4) (w : Bool) : h.take z (ask z r w) = (rest z h.data h.owner h.sh).take z (ask z r w) := by
  obtain ⟨line, harts, data, owner, sh, busy, serves, by_, asked, inv, back⟩ := h
  unfold restOk at hr
  simp at hr
  obtain ⟨⟨⟨⟨⟨h1, h2⟩, h3⟩, h4⟩, h5⟩, _⟩ := hr
  subst h1 h2 h3 h4 h5
  have t : ∀ h : HM δ, h.line = 0 → h.harts = 4 → h.busy = false → h.takes (ask z r w) = true := by
    intro h e1 e2 e3
    unfold HM.takes
    rw [if_neg (by rw [e1]; cases w <;> simp [ask]), if_neg (by cases w <;> simp [ask]), if_neg (by cases w <;> simp [ask] <;> omega), if_neg (by rw [e2]; cases w <;> simp [ask] <;> omega), if_pos (by cases w <;> simp [ask]), e3]
    rfl
  unfold HM.take
  rw [t _ rfl rfl rfl, t (rest z _ _ _) rfl rfl rfl]
  cases w <;> rfl

theorem wish [DecidableEq δ] (z : δ) {h : HM δ} {st : List Int} {now : δ} (I : Inv h st now) (r : Int) (hr0 : 0 ≤ r) (hr4 : r < 4) (w : Bool) (hs : skips st r w = false) :
    ∃ h' st', run z (fun d => decide (d = now)) now r w 10 (h.take z (ask z r w)).1 st (h.take z (ask z r w)).2 false = some (h', st', true) ∧ h'.busy = false ∧
      (∀ now', Inv h' (after st' r w) (if w then now' else now)) ∧ aloneOk (after st' r w) r = true := by
  let f : δ → Bool := fun d => decide (d = now)
  have hfn : f now = true := by simp [f]
  obtain ⟨hr, hd⟩ := I
  have hc : (h.owner, h.sh, st) ∈ cfg := by
    unfold restOk at hr
    simp only [Bool.and_eq_true] at hr
    exact cfg_mem hr.2
  have hg : good (f z) (f h.data) (h.owner, h.sh, st) r w = true := by
    have k := good_all
    rw [List.all_eq_true] at k
    have k1 := k _ hc
    rw [List.all_eq_true] at k1
    have k2 := k1 (f z) (by cases f z <;> simp)
    rw [List.all_eq_true] at k2
    have k3 := k2 (f h.data) (by cases f h.data <;> simp)
    rw [List.all_eq_true] at k3
    have k4 := k3 r (by have : r = 0 ∨ r = 1 ∨ r = 2 ∨ r = 3 := by omega
                        rcases this with rfl | rfl | rfl | rfl <;> simp)
    rw [List.all_eq_true] at k4
    exact k4 w (by cases w <;> simp)
  have hsk : (!(f h.data || dirtySt st)) = false := by
    rcases hd with hd | hd
    · rw [hd, hfn]; rfl
    · rw [hd]; simp
  unfold good at hg
  rw [hs, hsk] at hg
  simp only [Bool.false_or] at hg
  have e1 : (rest (f z) (f h.data) h.owner h.sh).take (f z) (ask (f z) r w) = mapO f (h.take z (ask z r w)) := by
    rw [rest_eq hr r hr0 hr4]; exact take_map f z (rest z h.data h.owner h.sh) (ask z r w)
  have e2 : run (f z) (fun b => b) true r w 10 (mapO f (h.take z (ask z r w))).1 st (mapO f (h.take z (ask z r w))).2 false = mapR f (run z f now r w 10 (h.take z (ask z r w)).1 st (h.take z (ask z r w)).2 false) := by
    have := run_map f z f (fun b => b) (fun _ => rfl) now r w 10 (h.take z (ask z r w)).1 st (h.take z (ask z r w)).2 false
    rw [hfn] at this
    exact this
  rw [e1, e2] at hg
  show ∃ h' st', run z f now r w 10 (h.take z (ask z r w)).1 st (h.take z (ask z r w)).2 false = some (h', st', true) ∧ _
  cases e3 : run z f now r w 10 (h.take z (ask z r w)).1 st (h.take z (ask z r w)).2 false with
  | none => rw [e3] at hg; cases hg
  | some x =>
    obtain ⟨h', st', g⟩ := x
    rw [e3] at hg
    simp only [mapR, Bool.and_eq_true] at hg
    obtain ⟨⟨⟨hg1, hg2⟩, hg3⟩, hg4⟩ := hg
    refine ⟨h', st', by rw [hg1], ?_, fun now' => ⟨hg2, ?_⟩, hg4⟩
    · rw [restOk_map] at hg2; unfold restOk at hg2; simp at hg2; exact hg2.1.1.1.2
    · cases w with
      | false =>
        simp at hg3
        rcases hg3 with k | k
        · left
          have : f h'.data = true := k
          simpa [f] using this
        · right; exact k
      | true =>
        simp at hg3
        right; exact hg3

end Go.Ev.Hom
