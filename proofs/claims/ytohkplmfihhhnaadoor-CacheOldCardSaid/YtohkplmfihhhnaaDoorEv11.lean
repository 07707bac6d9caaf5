/-
  The evaluator, part 11: a function's text as a stack of pieces, cut where ways meet and at loops; pieces that are sound one by one make a contract.
  Conditions: none.
-/
import Derived.Test.YtohkplmfihhhnaaDoorEv10
namespace Go.Ev
open Go

section
variable {P : Program} {f : FuncId} {N : Nat} {σ0 σ σ' : Store} {w0 w w' : World} {π : Nat → Nat} {e : Env} {a : Act} {H : Hints} {T : Nat → List Item}

/-- From here the call comes to its end, and R holds there. -/
def Goes (P : Program) (f : FuncId) (R : Ending → World → Prop) (todo : List Item) (a : Act) (w : World) : Prop :=
  ∀ (b : Frame) (cs : List Frame), b.fn = f → b.kind = .normal → ∃ en w' fr, R en w' ∧ Comes P (lone (b.at a todo) cs w) (lone fr cs w') en ∧ fr.fn = f ∧ fr.leaving P w' en

theorem Goes.step {R : Ending → World → Prop} {s s' : List Item} {a a' : Act} {w w' : World} (hs : ∀ (b : Frame) cs, Steps P (lone (b.at a s) cs w) (lone (b.at a' s') cs w')) (h : Goes P f R s' a' w') : Goes P f R s a w :=
  fun b cs hf hk => let ⟨en, w2, fr, hr, hc, h1, h2⟩ := h b cs hf hk; ⟨en, w2, fr, hr, .of_steps (hs b cs) hc, h1, h2⟩

theorem Goes.wp {R : Ending → World → Prop} {c : Code} {k : List Item} {Q : Act → World → Prop} (hw : c.wp P (fun x a w => match x with | .normal => Q a w | _ => False) a w) (h : ∀ a' w', Q a' w' → Goes P f R k a' w') :
    Goes P f R (.code c :: k) a w := by
  intro b cs hf hk
  obtain ⟨en, a', w', hq, harr⟩ := hw b k cs
  cases en with
  | normal =>
    obtain ⟨en, w2, fr, hr, hc, h1, h2⟩ := h a' w' hq b cs hf hk
    exact ⟨en, w2, fr, hr, .of_steps harr hc, h1, h2⟩
  | _ => exact hq.elim

/-- A cut: what it hands on is enough. -/
def Snd (P : Program) (f : FuncId) (R : Ending → World → Prop) (H : Hints) (N : Nat) (σ0 : Store) (w0 : World) (T : Nat → List Item) (i : Nat) (vs : List AV) (bs : List (List Value)) (σ : Store) : Prop :=
  ∀ π a w, Sim N σ0 w0 π (cutE H i vs bs) σ a w → Goes P f R (T i) a w

theorem lookT_add : ∀ (l r : List (Nat × AV)) (i : Nat), lookT (addT l r) i = lookT l i ∨ lookT (addT l r) i = lookT r i
  | [], _, _ => .inr rfl
  | (k, v) :: l, r, i => by
    simp only [addT, lookT]
    split
    · exact .inl rfl
    · exact lookT_add l r i

theorem lookT_zip (e : Env) : ∀ (l : List Nat) (i : Nat), lookT (zipT l (l.map e.get)) i = e.get i ∨ lookT (zipT l (l.map e.get)) i = .u
  | [], _ => .inr rfl
  | j :: r, i => by
    simp only [List.map_cons, zipT, lookT]
    split
    · rename_i h; have := Nat.eq_of_beq_eq_true h; subst this; exact .inl rfl
    · exact lookT_zip e r i

theorem lookT_box (e : Env) : ∀ (ks : List (Nat × TypeId)) (bs : List (List Value)) (i : Nat), boxCells e ks = some bs → lookT (boxT ks) i = e.get i ∨ lookT (boxT ks) i = .u
  | [], _, _, _ => .inr rfl
  | (k, ty) :: r, bs, i, hb => by
    simp only [boxCells] at hb
    split at hb
    · rename_i ty' cs l k' hj hl hk
      split at hb
      · rename_i h1 h2
        have h2 := Nat.eq_of_beq_eq_true h2
        subst h2
        simp only [boxT, lookT]
        split
        · rename_i h3
          have := Nat.eq_of_beq_eq_true h3
          subst this
          exact .inl hk.symm
        · exact lookT_box e r l i hl
      · cases hb
    · cases hb

theorem lookB_zip (e : Env) : ∀ (ks : List (Nat × TypeId)) (bs : List (List Value)) (k : Nat) (x : TypeId × List Value), boxCells e ks = some bs → lookB (zipB ks bs) k = some x → e.box k = some x
  | [], bs, _, _, _, h => by cases bs <;> cases h
  | (j, ty) :: r, bs, k, x, hb, h => by
    simp only [boxCells] at hb
    split at hb
    · rename_i ty' cs l k' hj hl _
      split at hb
      · rename_i ht _
        have ht := Nat.eq_of_beq_eq_true ht
        subst ht
        cases hb
        simp only [zipB, lookB] at h
        split at h
        · rename_i h2
          have := Nat.eq_of_beq_eq_true h2
          subst this
          cases h
          exact hj
        · exact lookB_zip e r l k x hl h
      · cases hb
    · cases hb

theorem Sim.cut (h : Sim N σ0 w0 π e σ a w) {i : Nat} {l : List Nat} {ks : List (Nat × TypeId)} {bs : List (List Value)} (hi : lookC H.cuts i = some (l, ks)) (hb : boxCells e ks = some bs) :
    Sim N σ0 w0 π (cutE H i (l.map e.get) bs) σ a w := by
  unfold cutE
  rw [hi]
  refine ⟨h.holds, h.ext, h.size, h.defers, fun i => ?_, fun k ty cs hk => ?_, fun k k' x x' hk hk' => ?_⟩
  · show VRel π (lookT (addT (zipT l (l.map e.get)) (boxT ks)) i) _
    have hg : lookT (addT (zipT l (l.map e.get)) (boxT ks)) i = e.get i ∨ lookT (addT (zipT l (l.map e.get)) (boxT ks)) i = .u := by
      rcases lookT_add (zipT l (l.map e.get)) (boxT ks) i with h1 | h1 <;> rw [h1]
      · exact lookT_zip e l i
      · exact lookT_box e ks bs i hb
    rcases hg with h1 | h1
    · rw [h1]; exact h.slots i
    · rw [h1]; trivial
  · exact h.boxes k ty cs (lookB_zip e ks bs k _ hb hk)
  · exact h.inj k k' x x' (lookB_zip e ks bs k _ hb hk) (lookB_zip e ks bs k' _ hb hk')

section
variable {R : Ending → World → Prop} {hand : Hand} {K : Env → Store → Prop}

theorem hop_sound (hh : ∀ i vs bs σ, hand i vs bs σ → Snd P f R H N σ0 w0 T i vs bs σ) {i : Nat} {s : List Item} (h : hop H T hand i s e σ) (hs : Sim N σ0 w0 π e σ a w) : Goes P f R s a w := by
  unfold hop at h
  split at h
  · rename_i l ks hi
    split at h
    · rename_i bs hb
      obtain ⟨rfl, h⟩ := h
      exact hh _ _ _ _ h π a w (hs.cut hi hb)
    · exact h.elim
  · exact h.elim

theorem goOn_sound (hh : ∀ i vs bs σ, hand i vs bs σ → Snd P f R H N σ0 w0 T i vs bs σ) {r : List Item → Env → Store → Prop}
    (hr : ∀ s e σ π a w, r s e σ → Sim N σ0 w0 π e σ a w → Goes P f R s a w) {s : List Item} (h : goOn H T hand r s e σ) (hs : Sim N σ0 w0 π e σ a w) : Goes P f R s a w := by
  unfold goOn at h
  split at h
  · split at h
    · exact hop_sound hh h hs
    · exact hr _ _ _ _ _ _ h hs
  · exact hr _ _ _ _ _ _ h hs

theorem run_sound (hm : P.follows .mixedOrders = true) (hh : ∀ i vs bs σ, hand i vs bs σ → Snd P f R H N σ0 w0 T i vs bs σ)
    (hK : ∀ e σ π a w, K e σ → Sim N σ0 w0 π e σ a w → ∃ v, (∀ (b : Frame), b.fn = f → ∃ fn, P.funcs[f]? = some fn ∧ (results fn a.tmps).run P w = .ok v w) ∧ R (.returned v) w) :
    ∀ (n : Nat) (s : List Item) (e : Env) (σ : Store) (π : Nat → Nat) (a : Act) (w : World), run P H N T hand K n s e σ → Sim N σ0 w0 π e σ a w → Goes P f R s a w := by
  intro n
  induction n with
  | zero => intro s e σ π a w h; exact h.elim
  | succ n ih =>
    have ihg : ∀ s e σ π a w, goOn H T hand (run P H N T hand K n) s e σ → Sim N σ0 w0 π e σ a w → Goes P f R s a w := fun s e σ π a w h hs => goOn_sound hh ih h hs
    intro s e σ π a w h hs
    cases s with
    | nil =>
      intro b cs hf hk
      obtain ⟨v, hv, hR⟩ := hK e σ π a w h hs
      obtain ⟨fn, hfn, hr⟩ := hv b hf
      exact ⟨.returned v, w, _, hR, .one step_end, hf, rfl, hs.defers, hk, fn, by rw [← hfn, ← hf]; rfl, hr⟩
    | cons it k =>
      cases it with
      | inBlock id => exact (ihg k e σ π a w h hs).step fun b cs => .one step_inBlock
      | inLoop c =>
        simp only [run] at h
        split at h
        · exact (hop_sound hh h hs).step fun b cs => .one step_inLoop
        · exact h.elim
      | code c =>
        cases c with
        | skip => exact (ihg k e σ π a w h hs).step fun b cs => .one step_skip
        | region id ops draw =>
          simp only [run] at h
          split at h
          · refine Goes.wp (Q := fun a w => ∃ e σ π, goOn H T hand (run P H N T hand K n) k e σ ∧ Sim N σ0 w0 π e σ a w) ?_ fun a' w' ⟨e', σ', π', h', hs'⟩ => ihg k e' σ' π' a' w' h' hs'
            have hreg := wp_region_list (id := id) (regS_sound _ h hs)
            exact Code.wp_mono (fun x a w hq => by cases x <;> exact hq) hreg
          · obtain ⟨hsel, h⟩ := Req_true h
            refine Goes.wp (Q := fun a w => ∃ e σ π, goOn H T hand (run P H N T hand K n) k e σ ∧ Sim N σ0 w0 π e σ a w) ?_ fun a' w' ⟨e', σ', π', h', hs'⟩ => ihg k e' σ' π' a' w' h' hs'
            have hs' : Sim N σ0 w0 π e σ a { w with drawn := w.drawn + 1 } := ⟨hs.holds, ⟨hs.ext.os, hs.ext.tape, hs.ext.output, hs.ext.size, hs.ext.keep, hs.ext.dom⟩, hs.size, hs.defers, hs.slots, hs.boxes, hs.inj⟩
            have hreg := wp_region_G (id := id) hm (regD_sound hsel _ _ [] h hs' fun _ hg => by cases hg)
            exact Code.wp_mono (fun x a w hq => by cases x <;> exact hq) hreg
        | seq x y => exact (ih _ e σ π a w h hs).step fun b cs => .one step_seq
        | cond c x y =>
          simp only [run] at h
          split at h
          · rename_i t hc
            have hc' := hs.evv hc
            have hl : Sim N σ0 w0 π (e.learn c t) σ a w := by
              cases c with
              | tmp i => exact hs.learn (av := .v (.bool t)) hc'
              | _ => exact hs
            cases t with
            | true => exact (ih _ _ σ π a w h hl).step fun b cs => .one (step_cond hc')
            | false => exact (ih _ _ σ π a w h hl).step fun b cs => .one (step_cond hc')
          · exact h.elim
        | block id c => exact (ih _ e σ π a w h hs).step fun b cs => .one step_block
        | loop c =>
          simp only [run] at h
          split at h
          · exact (hop_sound hh h hs).step fun b cs => .one step_loop
          · exact h.elim
        | exit id =>
          simp only [run] at h
          split at h
          · rename_i k' hk'
            exact (ihg k' e σ π a w h hs).step fun b cs => .one (step_exit hk')
          · exact h.elim
        | ret =>
          intro b cs hf hk
          obtain ⟨v, hv, hR⟩ := hK e σ π a w h hs
          obtain ⟨fn, hfn, hr⟩ := hv b hf
          exact ⟨.returned v, w, _, hR, .one step_ret, hf, rfl, hs.defers, hk, fn, by rw [← hfn, ← hf]; rfl, hr⟩
        | _ => exact h.elim
      | _ => exact h.elim
end

/-- What a call of f comes to, from a store and a world on. -/
def Fin (σ0 : Store) (w0 : World) (K : Value → Store → Prop) : Ending → World → Prop :=
  fun en w' => ∃ v σ', en = .returned v ∧ K v σ' ∧ Holds σ' w' ∧ Ext σ0 σ' w0 w'

/-- A piece is sound. -/
def SndF (P : Program) (f : FuncId) (H : Hints) (T : Nat → List Item) (K : Value → Store → Prop) (i : Nat) (vs : List AV) (bs : List (List Value)) (σ : Store) : Prop :=
  ∀ σ0 w0, Snd P f (Fin σ0 w0 K) H (ntmpsOf P f) σ0 w0 T i vs bs σ

theorem seg_goes (hm : P.follows .mixedOrders = true) {hand : Hand} {K : Value → Store → Prop} (hh : ∀ i vs bs σ, hand i vs bs σ → SndF P f H T K i vs bs σ) {s : List Item}
    (h : seg P H f T hand K s e σ) (hs : Sim (ntmpsOf P f) σ0 w0 π e σ a w) : Goes P f (Fin σ0 w0 K) s a w := by
  refine run_sound hm (fun i vs bs σ hx => hh i vs bs σ hx σ0 w0) (fun e σ π a w hk hs => ?_) _ s e σ π a w h hs
  unfold retK at hk
  split at hk
  · rename_i fn hfn
    obtain ⟨l, hk, hr⟩ := resK_sound hs _ hk
    exact ⟨resV l, fun b _ => ⟨fn, hfn, results_run hr⟩, _, σ, rfl, hk, hs.holds, hs.ext⟩
  · exact hk.elim

/-- A piece that begins at a cut. -/
theorem seg_snd (hm : P.follows .mixedOrders = true) {hand : Hand} {K : Value → Store → Prop} (hh : ∀ i vs bs σ, hand i vs bs σ → SndF P f H T K i vs bs σ) {i : Nat} {vs : List AV} {bs : List (List Value)}
    (h : seg P H f T hand K (T i) (cutE H i vs bs) σ) : SndF P f H T K i vs bs σ :=
  fun _ _ _ _ _ hs => seg_goes hm hh h hs

theorem segF_spec (hm : P.follows .mixedOrders = true) {hand : Hand} {K : Value → Store → Prop} (hh : ∀ i vs bs σ, hand i vs bs σ → SndF P f H T K i vs bs σ) {args : List Value}
    (h : segF P H f T hand K args σ) : Spec P f args σ K := by
  intro w hw
  unfold segF at h
  split at h
  · rename_i hcall
    obtain ⟨hle, h⟩ := Req_true h
    have hle := Nat.le_of_ble_eq_true hle
    unfold callable at hcall
    split at hcall
    · rename_i fn hfn
      simp only [Bool.and_eq_true] at hcall
      obtain ⟨c, hc⟩ := Option.isSome_iff_exists.1 hcall.1
      have hN : ntmpsOf P f = fn.ntmps := by simp [ntmpsOf, hfn]
      have hB : bodyOf P f = c := by simp [bodyOf, hfn, hc]
      have hs : Sim (ntmpsOf P f) σ w id ⟨argsT 0 args, []⟩ σ { tmps := args.toArray ++ Array.replicate (fn.ntmps - args.toArray.size) undef, defers := [] } w := by
        refine ⟨hw, .refl _ _, by rw [hN] at hle ⊢; simp; omega, rfl, fun i => ?_, fun k ty cs hb => (by cases hb), fun k k' x x' hb => (by cases hb)⟩
        show VRel id (lookT (argsT 0 args) i) _
        rw [lookT_args]
        simp only [Nat.zero_le, if_true, Nat.sub_zero]
        cases hi : args[i]? with
        | none => trivial
        | some v =>
          have hlt : i < args.length := (List.getElem?_eq_some_iff.1 hi).1
          have hv : args[i] = v := (List.getElem?_eq_some_iff.1 hi).2
          show _ = v
          simp [Array.getElem?_append, hlt, hv]
      intro cs
      let b : Frame := { (default : Frame) with fn := f, kind := .normal }
      have henter : Frame.enter P f args.toArray .normal = b.at { tmps := args.toArray ++ Array.replicate (fn.ntmps - args.toArray.size) undef, defers := [] } [.code c] := by
        simp [Frame.enter, Frame.at, hfn, hc, b]
      have hg := seg_goes hm hh h hs b cs rfl rfl
      rw [hB, ← henter] at hg
      exact hg
    · cases hcall
  · cases h

@[simp] theorem Hop_self (s : List Item) (X : Prop) : Hop s s X ↔ X := ⟨fun h => h.2, fun h => ⟨rfl, h⟩⟩

/-- Which piece goes on: each is sound. -/
theorem hsel_sound {Q : Nat → List AV → List (List Value) → Store → Prop} : ∀ {l : List (Nat × (List AV → List (List Value) → Store → Prop))}, (∀ x ∈ l, ∀ vs bs σ, x.2 vs bs σ → Q x.1 vs bs σ) →
    ∀ i vs bs σ, hsel l i vs bs σ → Q i vs bs σ
  | [], _, _, _, _, _, h => h.elim
  | (j, g) :: r, hl, i, vs, bs, σ, h => by
    simp only [hsel] at h
    split at h
    · rename_i hj
      have := Nat.eq_of_beq_eq_true hj
      subst this
      exact hl _ (List.mem_cons_self ..) vs bs σ h
    · exact hsel_sound (fun x hx => hl x (List.mem_cons_of_mem _ hx)) i vs bs σ h

end
end Go.Ev
