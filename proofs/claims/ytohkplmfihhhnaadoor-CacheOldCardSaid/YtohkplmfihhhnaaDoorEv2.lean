/-
  The evaluator, part 2: a region that draws its order. An operation that only reads may be taken first; what it read has to stay until an operation that waits for it has come.
  Conditions: none.
-/
import Derived.Test.YtohkplmfihhhnaaDoorEv1
namespace Go.Ev
open Go

section
variable {P : Program} {ops : Array Oper} {Q : Exit → Act → World → Prop} {md : Region.Mode}

/-- Does 'j' wait for 'i' (by an edge of its own)? -/
def waits (md : Region.Mode) (ops : Array Oper) (j i : Nat) : Bool :=
  match ops[j]? with
  | some oj => oj.after.any fun e => Region.binds md e && e.on == i
  | none => false

theorem waits_spec {j i : Nat} (h : waits md ops j i = true) : ∃ oj, ops[j]? = some oj ∧ ∃ e ∈ oj.after, Region.binds md e = true ∧ e.on = i := by
  unfold waits at h
  split at h
  · rename_i oj hj
    obtain ⟨e, he, hb⟩ := Array.any_eq_true'.1 h
    simp only [Bool.and_eq_true, beq_iff_eq] at hb
    exact ⟨oj, hj, e, he, hb.1, hb.2⟩
  · cases h

abbrev Gs := List (Nat × (World → Prop))

/-- What is left behind an operation 'j': the facts of those that 'j' does not wait for. -/
def Gs.behind (md : Region.Mode) (ops : Array Oper) (j : Nat) (G : Gs) : Gs := G.filter fun g => !waits md ops j g.1

/-- Whatever order is picked; the facts G hold behind every operation, each until an operation that waits for its owner. -/
def wpAnyG (P : Program) (md : Region.Mode) (ops : Array Oper) (Q : Exit → Act → World → Prop) : Nat → Array Bool → Gs → Act → World → Prop
  | 0, listed, G, a, w => (∀ g ∈ G, g.2 w) ∧ Region.ready md ops listed = [] ∧ Q .normal a w
  | fuel + 1, listed, G, a, w =>
    (∀ g ∈ G, g.2 w) ∧ (Region.ready md ops listed = [] → Q .normal a w) ∧
    ∀ i ∈ Region.ready md ops listed, wpOp P ops Q i (fun a' w' => wpAnyG P md ops Q fuel (listed.setIfInBounds i true) (G.behind md ops i) a' w') a w

theorem wpAnyG_holds {fuel : Nat} {listed : Array Bool} {G : Gs} {a : Act} {w : World} (h : wpAnyG P md ops Q fuel listed G a w) : ∀ g ∈ G, g.2 w := by
  cases fuel <;> exact h.1

theorem wpAny_of_G : ∀ (fuel : Nat) (listed : Array Bool) (G : Gs) (a : Act) (w : World), wpAnyG P md ops Q fuel listed G a w → wpAny P md ops Q fuel listed a w
  | 0, _, _, _, _, h => h.2
  | fuel + 1, _, _, _, _, h => ⟨h.2.1, fun i hi => wpOp_mono (fun a' w' h' => wpAny_of_G fuel _ _ a' w' h') (h.2.2 i hi)⟩

/-- G says all that G' says. -/
def Gs.says (G G' : Gs) : Prop := ∀ g' ∈ G', ∃ g ∈ G, g.1 = g'.1 ∧ ∀ w, g.2 w → g'.2 w

theorem Gs.says_behind {G G' : Gs} (h : G.says G') (j : Nat) : (G.behind md ops j).says (G'.behind md ops j) := by
  intro g' hg'
  obtain ⟨hg', hw⟩ := List.mem_filter.1 hg'
  obtain ⟨g, hg, e, hs⟩ := h g' hg'
  exact ⟨g, List.mem_filter.2 ⟨hg, by rw [e]; exact hw⟩, e, hs⟩

theorem wpAnyG_says : ∀ (fuel : Nat) (listed : Array Bool) (G G' : Gs) (a : Act) (w : World), G.says G' → wpAnyG P md ops Q fuel listed G a w → wpAnyG P md ops Q fuel listed G' a w := by
  intro fuel
  induction fuel with
  | zero =>
    intro listed G G' a w hs h
    refine ⟨fun g' hg' => ?_, h.2⟩
    obtain ⟨g, hg, _, hi⟩ := hs g' hg'
    exact hi w (h.1 g hg)
  | succ fuel ih =>
    intro listed G G' a w hs h
    refine ⟨fun g' hg' => ?_, h.2.1, fun i hi => wpOp_mono (fun a' w' h' => ih _ _ _ a' w' (Gs.says_behind hs i) h') (h.2.2 i hi)⟩
    obtain ⟨g, hg, _, hi⟩ := hs g' hg'
    exact hi w (h.1 g hg)

/-- The facts when 'k' has been taken first: its own, and those of all that it waits for. -/
def Gs.taken (md : Region.Mode) (ops : Array Oper) (k : Nat) (S : World → Prop) (G : Gs) : Gs :=
  (k, fun w => S w ∧ ∀ g ∈ G, waits md ops k g.1 = true → g.2 w) :: G.behind md ops k

theorem Gs.taken_holds {k : Nat} {S : World → Prop} {G : Gs} {w : World} (h : ∀ g ∈ G.taken md ops k S, g.2 w) : S w ∧ ∀ g ∈ G, g.2 w := by
  have h0 := h _ (List.mem_cons_self ..)
  refine ⟨h0.1, fun g hg => ?_⟩
  cases hw : waits md ops k g.1 with
  | true => exact h0.2 g hg hw
  | false => exact h g (List.mem_cons_of_mem _ (List.mem_filter.2 ⟨hg, by simp [hw]⟩))

theorem not_waits_of_ready {j k : Nat} {listed : Array Bool} (hj : j ∈ Region.ready md ops listed) (hk : k ∈ Region.ready md ops listed) :
    waits md ops j k = false := by
  cases hw : waits md ops j k with
  | false => rfl
  | true =>
    obtain ⟨oj, hoj, e, he, hb, heq⟩ := waits_spec hw
    obtain ⟨_, oj', hoj', hall⟩ := mem_ready.1 hj
    rw [hoj] at hoj'
    cases hoj'
    have h1 := hall e he hb
    have h0 := (mem_ready.1 hk).1
    rw [heq] at h1
    rcases Nat.lt_or_ge k listed.size with h' | h'
    · simp [h'] at h0 h1; rw [h0] at h1; cases h1
    · simp [Array.getElem?_eq_none h'] at h1

theorem wpAnyG_first {i : Nat} {oi : Oper} {v : Value} {S : World → Prop} (hi : ops[i]? = some oi) (hsel : ∀ (j : Nat) (o : Oper) cs b, ops[j]? = some o → o.op ≠ .select cs b)
    (hQ : ∀ c a w, Q (.panic c) (a.put oi.dst v) w → Q (.panic c) a w) :
    ∀ (fuel : Nat) (listed : Array Bool) (G : Gs) (a : Act) (w : World),
      (∀ j oj, ops[j]? = some oj → j ≠ i → listed.getD j true = false → (∀ e ∈ oj.after, Region.binds md e = true → e.on ≠ i) → oi.apart ops oj = true) →
      i ∈ Region.ready md ops listed → YieldsIf P ops S oi v a →
      wpAnyG P md ops Q fuel (listed.setIfInBounds i true) (G.taken md ops i S) (a.put oi.dst v) w → wpAnyG P md ops Q (fuel + 1) listed G a w := by
  intro fuel
  induction fuel with
  | zero =>
    intro listed G a w _ hr hy H
    obtain ⟨hS, hG⟩ := Gs.taken_holds H.1
    refine ⟨hG, fun h => (by rw [h] at hr; cases hr), fun j hj => ?_⟩
    by_cases hji : j = i
    · subst hji
      exact hy.wpOp hi hS (wpAnyG_says _ _ _ _ _ _ (fun g hg => ⟨g, List.mem_cons_of_mem _ hg, rfl, fun _ h => h⟩) H)
    · have := ready_mono hj hji
      rw [H.2.1] at this
      cases this
  | succ fuel ih =>
    intro listed G a w hfree hr hy H
    obtain ⟨hS, hG⟩ := Gs.taken_holds H.1
    refine ⟨hG, fun h => (by rw [h] at hr; cases hr), fun j hj => ?_⟩
    by_cases hji : j = i
    · subst hji
      exact hy.wpOp hi hS (wpAnyG_says _ _ _ _ _ _ (fun g hg => ⟨g, List.mem_cons_of_mem _ hg, rfl, fun _ h => h⟩) H)
    · have h1 := H.2.2 j (ready_mono hj hji)
      obtain ⟨hjun, oj, hoj, hall⟩ := mem_ready.1 hj
      have hnw := not_waits_of_ready (md := md) hj hr
      have hnot : ∀ e ∈ oj.after, Region.binds md e = true → e.on ≠ i := fun e he hb heq => by
        have : waits md ops j i = true := by
          unfold waits
          rw [hoj]
          exact Array.any_eq_true'.2 ⟨e, he, by simp [hb, heq]⟩
        rw [hnw] at this; cases this
      have h2 := wpOp_putIf hoj (hfree j oj hoj hji hjun hnot) (fun cs b => hsel i oi cs b hi) (fun cs b => hsel j oj cs b hoj) hQ hy h1
      have hfree' : ∀ k ok, ops[k]? = some ok → k ≠ i → (listed.setIfInBounds j true).getD k true = false →
          (∀ e ∈ ok.after, Region.binds md e = true → e.on ≠ i) → oi.apart ops ok = true := fun k ok hk hki hun hno => by
        refine hfree k ok hk hki ?_ hno
        by_cases hjk : j = k
        · subst hjk; exact hjun
        · rw [getD_set_ne true hjk] at hun; exact hun
      refine wpOp_mono (fun a' w' h3 => ih (listed.setIfInBounds j true) (G.behind md ops j) a' w' hfree' (ready_mono hr (Ne.symm hji)) h3.1 ?_) h2
      rw [Array.setIfInBounds_comm _ _ hji]
      refine wpAnyG_says _ _ _ _ _ _ ?_ h3.2
      intro g hg
      rcases List.mem_cons.1 hg with rfl | hg
      · refine ⟨(i, fun w => S w ∧ ∀ g ∈ G, waits md ops i g.1 = true → g.2 w), List.mem_filter.2 ⟨List.mem_cons_self .., by simp [hnw]⟩, rfl, fun w h => ⟨h.1, fun g hg hw => ?_⟩⟩
        exact h.2 g (List.mem_filter.1 hg).1 hw
      · obtain ⟨hg, h5⟩ := List.mem_filter.1 hg
        obtain ⟨hg, h6⟩ := List.mem_filter.1 hg
        exact ⟨g, List.mem_filter.2 ⟨List.mem_cons_of_mem _ (List.mem_filter.2 ⟨hg, h5⟩), h6⟩, rfl, fun _ h => h⟩

/-- Take number 'i' first. -/
theorem wpAnyG_take {i : Nat} {oi : Oper} {v : Value} {S : World → Prop} {fuel : Nat} {listed : Array Bool} {G : Gs} {a : Act} {w : World} (hi : ops[i]? = some oi)
    (hs : Region.noSelect ops = true) (hf : Region.free md ops listed i = true) (hr : i ∈ Region.ready md ops listed)
    (hQ : ∀ c a w, Q (.panic c) (a.put oi.dst v) w → Q (.panic c) a w) (hy : YieldsIf P ops S oi v a)
    (h : wpAnyG P md ops Q fuel (listed.setIfInBounds i true) (G.taken md ops i S) (a.put oi.dst v) w) : wpAnyG P md ops Q (fuel + 1) listed G a w :=
  wpAnyG_first hi (Region.noSelect_spec hs) hQ fuel listed G a w (Region.free_spec hi hf) hr hy h

theorem wp_region_G {id : Nat} {a : Act} {w : World} (hm : P.follows .mixedOrders = true)
    (h : wpAnyG P .any ops Q ops.size (Array.replicate ops.size false) [] a { w with drawn := w.drawn + 1 }) : (Code.region id ops true).wp P Q a w :=
  wp_region_any hm (wpAny_of_G _ _ _ _ _ h)
end
end Go.Ev
