/-
  The evaluator, part 10: regions, code and functions: what the executor says of a function is a contract of it.
  Conditions: none.
-/
import Derived.Test.YtohkplmfihhhnaaDoorEv9
namespace Go.Ev
open Go

section
variable {P : Program} {N : Nat} {σ0 σ σ' : Store} {w0 w w' : World} {π : Nat → Nat} {e : Env} {a : Act} {H : Hints} {ops : Array Oper}

theorem yielded_some {g j : Nat} {c : Bool} (hg : guardSlot ops j = some g) (ha : a.tmps.getD g undef = .bool c) : yielded ops a.tmps j = some c := by
  unfold guardSlot at hg
  split at hg
  · rename_i o ho
    have : a.tmps[g]? = some (.bool c) := by
      cases hx : a.tmps[g]? with
      | none => simp [hx, undef] at ha
      | some v => simp [hx] at ha; rw [ha]
    simp [yielded, ho, hg, this]
  · cases hg

theorem yielded_none {g j : Nat} {vs : Array Value} (hg : guardSlot ops j = some g) (ha : a.tmps.getD g undef = .tuple vs) : yielded ops a.tmps j = none := by
  unfold guardSlot at hg
  split at hg
  · rename_i o ho
    cases hx : a.tmps[g]? with
    | none => simp [yielded, ho, hg, hx]
    | some v =>
      simp [hx] at ha
      subst ha
      simp [yielded, ho, hg, hx]
  · cases hg

theorem Sim.learn (h : Sim N σ0 w0 π e σ a w) {g : Nat} {av : AV} (hv : VRel π av (a.tmps.getD g undef)) : Sim N σ0 w0 π (e.put g av) σ a w := by
  refine ⟨h.holds, h.ext, h.size, h.defers, fun i => ?_, h.boxes, h.inj⟩
  show VRel π (lookT ((g, av) :: e.t) i) _
  rw [lookT_put]
  split
  · rename_i hi; subst hi; exact hv
  · exact h.slots i

theorem guardK_sound {o : Oper} {run skip : Env → Prop} (hs : Sim N σ0 w0 π e σ a w) (h : guardK ops o e run skip) :
    (Region.wanted o (yielded ops a.tmps) = true ∧ ∃ e', run e' ∧ Sim N σ0 w0 π e' σ a w ∧ e'.b = e.b) ∨
    (Region.wanted o (yielded ops a.tmps) = false ∧ ∃ e', skip e' ∧ Sim N σ0 w0 π e' σ a w ∧ e'.b = e.b) := by
  unfold guardK at h
  split at h
  · rename_i hg
    exact .inl ⟨by simp [Region.wanted, hg], e, h, hs, rfl⟩
  · rename_i j want hg
    split at h
    · exact h.elim
    · rename_i g hgs
      split at h
      · rename_i c hc
        have hv := hs.slots g
        rw [hc] at hv
        have hy := yielded_some hgs hv
        cases c with
        | true =>
          cases want with
          | true => exact .inl ⟨by simp [Region.wanted, hg, hy], _, h, hs.learn hv, rfl⟩
          | false => exact .inr ⟨by simp [Region.wanted, hg, hy], _, h, hs.learn hv, rfl⟩
        | false =>
          cases want with
          | true => exact .inr ⟨by simp [Region.wanted, hg, hy], _, h, hs.learn hv, rfl⟩
          | false => exact .inl ⟨by simp [Region.wanted, hg, hy], _, h, hs.learn hv, rfl⟩
      · rename_i vs hc
        have hv := hs.slots g
        rw [hc] at hv
        have hy := yielded_none hgs hv
        exact .inr ⟨by simp [Region.wanted, hg, hy], _, h, hs, rfl⟩
      · exact h.elim

/-- The post of a region. -/
def QK (N : Nat) (σ0 : Store) (w0 : World) (K : Env → Store → Prop) : Exit → Act → World → Prop
  | .normal, a, w => ∃ e σ π, K e σ ∧ Sim N σ0 w0 π e σ a w
  | _, _, _ => False

theorem regS_sound {K : Env → Store → Prop} : ∀ (l : List Oper) {e : Env} {σ : Store} {π : Nat → Nat} {a : Act} {w : World}, regS P H N ops K l e σ → Sim N σ0 w0 π e σ a w →
    wpList P ops (QK N σ0 w0 K) l a w
  | [], e, σ, π, a, w, h, hs => ⟨e, σ, π, h, hs⟩
  | o :: r, e, σ, π, a, w, h, hs => by
    obtain ⟨hd, h⟩ := Req_true h
    unfold wpList
    rcases guardK_sound hs h with ⟨hw, e', h, hs', _⟩ | ⟨hw, e', h, hs', _⟩
    · rw [if_pos hw]
      left
      split at h
      · obtain ⟨av, fs, cv, hk, hv, hf, _, hr⟩ := nrK_sound hs' h
        unfold Oper.wp
        rw [hr w hf, Oper.upon_value]
        exact regS_sound r hk (hs'.putO hv hd)
      · refine Oper.wp_mono (fun a' w' hp => ?_) (waK_sound hs' hd h)
        obtain ⟨e2, σ2, π2, hk, hs2, _⟩ := hp
        exact regS_sound r hk hs2
    · rw [if_neg (by simp [hw])]
      exact regS_sound r h (hs'.putO rfl hd)

/-! ### A region that draws -/
def mapG (π : Nat → Nat) (G : GF) : Gs := G.map fun g => (g.1, fun w => ∀ f ∈ g.2, f.holds π w)

def GI (π : Nat → Nat) (e : Env) (w : World) (G : GF) : Prop := ∀ g ∈ G, ∀ f ∈ g.2, f.holds π w ∧ ∀ k ty cs, f = .q k ty cs → e.box k = some (ty, cs)

theorem GI.holds {G : GF} (h : GI π e w G) : ∀ g ∈ mapG π G, g.2 w := by
  intro g hg
  obtain ⟨x, hx, rfl⟩ := List.mem_map.1 hg
  exact fun f hf => (h x hx f hf).1

theorem mem_gfOf {k : Nat} {f : Fact} : ∀ {G : GF}, f ∈ gfOf ops k G → ∃ g ∈ G, waits .any ops k g.1 = true ∧ f ∈ g.2
  | [], h => by cases h
  | g :: r, h => by
    simp only [gfOf] at h
    split at h
    · rename_i hw
      rcases List.mem_append.1 h with h | h
      · exact ⟨g, List.mem_cons_self .., hw, h⟩
      · obtain ⟨x, hx, h⟩ := mem_gfOf h; exact ⟨x, List.mem_cons_of_mem _ hx, h⟩
    · obtain ⟨x, hx, h⟩ := mem_gfOf h; exact ⟨x, List.mem_cons_of_mem _ hx, h⟩

theorem gfOf_mem {k : Nat} {f : Fact} : ∀ {G : GF} {g : Nat × List Fact}, g ∈ G → waits .any ops k g.1 = true → f ∈ g.2 → f ∈ gfOf ops k G
  | x :: r, g, hg, hw, hf => by
    simp only [gfOf]
    rcases List.mem_cons.1 hg with rfl | hg
    · rw [hw]; exact List.mem_append_left _ hf
    · split
      · exact List.mem_append_right _ (gfOf_mem hg hw hf)
      · exact gfOf_mem hg hw hf

theorem mapG_taken {G : GF} {k : Nat} {fs : List Fact} : (mapG π (GF.taken ops k fs G)).says (Gs.taken .any ops k (fun w => ∀ f ∈ fs, f.holds π w) (mapG π G)) := by
  intro g hg
  rcases List.mem_cons.1 hg with rfl | hg
  · refine ⟨_, List.mem_map.2 ⟨(k, fs ++ gfOf ops k G), List.mem_cons_self .., rfl⟩, rfl, fun w h => ⟨fun f hf => h f (List.mem_append_left _ hf), fun g hg hw => ?_⟩⟩
    obtain ⟨x, hx, rfl⟩ := List.mem_map.1 hg
    intro f hf
    exact h f (List.mem_append_right _ (gfOf_mem hx hw hf))
  · obtain ⟨hg, hw⟩ := List.mem_filter.1 hg
    obtain ⟨x, hx, rfl⟩ := List.mem_map.1 hg
    exact ⟨_, List.mem_map.2 ⟨x, List.mem_cons_of_mem _ (List.mem_filter.2 ⟨hx, hw⟩), rfl⟩, rfl, fun _ h => h⟩

theorem mapG_behind {G : GF} {k : Nat} {π' : Nat → Nat} (hπ : ∀ g ∈ G.behind ops k, ∀ f ∈ g.2, ∀ w, f.holds π' w → f.holds π w) :
    (mapG π' (GF.behind ops k G)).says (Gs.behind .any ops k (mapG π G)) := by
  intro g hg
  obtain ⟨hg, hw⟩ := List.mem_filter.1 hg
  obtain ⟨x, hx, rfl⟩ := List.mem_map.1 hg
  have hx' : x ∈ GF.behind ops k G := List.mem_filter.2 ⟨hx, hw⟩
  exact ⟨_, List.mem_map.2 ⟨x, hx', rfl⟩, rfl, fun w h f hf => hπ x hx' f hf w (h f hf)⟩

theorem GI.taken {G : GF} (h : GI π e w G) {e' : Env} (hb : ∀ k, e'.box k = e.box k) {k : Nat} {fs : List Fact} (hf : ∀ f ∈ fs, f.holds π w) (hq : ∀ k ty cs, Fact.q k ty cs ∈ fs → e.box k = some (ty, cs)) :
    GI π e' w (GF.taken ops k fs G) := by
  intro g hg f hfg
  rcases List.mem_cons.1 hg with rfl | hg
  · rcases List.mem_append.1 hfg with h1 | h1
    · exact ⟨hf f h1, fun j ty cs he => by rw [hb]; exact hq j ty cs (he ▸ h1)⟩
    · obtain ⟨x, hx, _, h2⟩ := mem_gfOf h1
      obtain ⟨h3, h4⟩ := h x hx f h2
      exact ⟨h3, fun j ty cs he => by rw [hb]; exact h4 j ty cs he⟩
  · obtain ⟨h3, h4⟩ := h g (List.mem_filter.1 hg).1 f hfg
    exact ⟨h3, fun j ty cs he => by rw [hb]; exact h4 j ty cs he⟩

theorem GI.behind {G : GF} (h : GI π e w G) {e' : Env} (hb : ∀ k, e'.box k = e.box k) {k : Nat} : GI π e' w (GF.behind ops k G) := by
  intro g hg f hfg
  obtain ⟨h3, h4⟩ := h g (List.mem_filter.1 hg).1 f hfg
  exact ⟨h3, fun j ty cs he => by rw [hb]; exact h4 j ty cs he⟩

theorem keeps1_spec {K : Prop} : ∀ {fs : List Fact}, keeps1 σ fs K → K ∧ (∀ b off vs, Fact.m b off vs ∈ fs → cellsAt σ b off vs.length = some vs) ∧ ∀ b k, Fact.w b k ∈ fs → σ b = some k
  | [], h => ⟨h, (fun _ _ _ hm => by cases hm), (fun _ _ hm => by cases hm)⟩
  | .m b off vs :: r, h => by
    obtain ⟨hk, h2, h3⟩ := keeps1_spec (fs := r) h.2
    refine ⟨hk, (fun b' off' vs' hm => ?_), (fun b' k' hm => ?_)⟩
    · rcases List.mem_cons.1 hm with heq | hm
      · cases heq; exact h.1
      · exact h2 _ _ _ hm
    · rcases List.mem_cons.1 hm with heq | hm
      · cases heq
      · exact h3 _ _ hm
  | .q _ _ _ :: r, h => by
    obtain ⟨hk, h2, h3⟩ := keeps1_spec (fs := r) h
    refine ⟨hk, (fun b' off' vs' hm => ?_), (fun b' k' hm => ?_)⟩
    · rcases List.mem_cons.1 hm with heq | hm
      · cases heq
      · exact h2 _ _ _ hm
    · rcases List.mem_cons.1 hm with heq | hm
      · cases heq
      · exact h3 _ _ hm
  | .w b k :: r, h => by
    obtain ⟨hk, h2, h3⟩ := keeps1_spec (fs := r) h.2
    refine ⟨hk, (fun b' off' vs' hm => ?_), (fun b' k' hm => ?_)⟩
    · rcases List.mem_cons.1 hm with heq | hm
      · cases heq
      · exact h2 _ _ _ hm
    · rcases List.mem_cons.1 hm with heq | hm
      · cases heq; exact h.1
      · exact h3 _ _ hm

theorem keepsG_spec {K : Prop} : ∀ {G : GF}, keepsG σ G K → K ∧ ∀ g ∈ G, (∀ b off vs, Fact.m b off vs ∈ g.2 → cellsAt σ b off vs.length = some vs) ∧ ∀ b k, Fact.w b k ∈ g.2 → σ b = some k
  | [], h => ⟨h, fun _ hg => by cases hg⟩
  | g :: r, h => by
    obtain ⟨h1, h2⟩ := keeps1_spec h
    obtain ⟨hk, h3⟩ := keepsG_spec h1
    refine ⟨hk, fun x hx => ?_⟩
    rcases List.mem_cons.1 hx with rfl | hx
    · exact h2
    · exact h3 x hx

theorem boxFree1_spec {k : Nat} : ∀ {fs : List Fact}, boxFree1 k fs = true → ∀ j ty cs, Fact.q j ty cs ∈ fs → j ≠ k
  | [], _, _, _, _, hm => by cases hm
  | .m _ _ _ :: r, h, j, ty, cs, hm => by
    rcases List.mem_cons.1 hm with heq | hm
    · cases heq
    · exact boxFree1_spec (fs := r) h j ty cs hm
  | .w _ _ :: r, h, j, ty, cs, hm => by
    rcases List.mem_cons.1 hm with heq | hm
    · cases heq
    · exact boxFree1_spec (fs := r) h j ty cs hm
  | .q i t c :: r, h, j, ty, cs, hm => by
    simp only [boxFree1] at h
    split at h
    · cases h
    · rename_i hne
      rcases List.mem_cons.1 hm with heq | hm
      · cases heq; rintro rfl; simp at hne
      · exact boxFree1_spec h j ty cs hm

theorem boxFree_spec {k : Nat} : ∀ {G : GF}, boxFree k G = true → ∀ g ∈ G, ∀ j ty cs, Fact.q j ty cs ∈ g.2 → j ≠ k
  | [], _, _, hg => by cases hg
  | x :: r, h, g, hg => by
    simp only [boxFree] at h
    split at h
    · rename_i h1
      rcases List.mem_cons.1 hg with rfl | hg
      · exact boxFree1_spec h1
      · exact boxFree_spec h g hg
    · cases h

theorem pickNR_spec : ∀ {l : List Nat} {i : Nat}, pickNR ops l = some i → i ∈ l ∧ ∃ o, ops[i]? = some o ∧ isNR o = true
  | [], _, h => by cases h
  | j :: r, i, h => by
    simp only [pickNR] at h
    split at h
    · rename_i o ho
      split at h
      · rename_i hn; cases h; exact ⟨List.mem_cons_self .., o, ho, hn⟩
      · obtain ⟨h1, h2⟩ := pickNR_spec h; exact ⟨List.mem_cons_of_mem _ h1, h2⟩
    · cases h

theorem eachK_spec {F : Nat → Prop} : ∀ {l : List Nat}, eachK F l → ∀ i ∈ l, F i
  | [], _, i, hi => by cases hi
  | [j], h, i, hi => by
    rcases List.mem_cons.1 hi with rfl | hi
    · exact h
    · cases hi
  | j :: k :: r, h, i, hi => by
    rcases List.mem_cons.1 hi with rfl | hi
    · exact h.1
    · exact eachK_spec h.2 i hi

theorem box_of_b {e e' : Env} (h : e'.b = e.b) (k : Nat) : e'.box k = e.box k := by unfold Env.box; rw [h]

theorem regD_sound {K : Env → Store → Prop} (hsel : Region.noSelect ops = true) : ∀ (n : Nat) (listed : Array Bool) (G : GF) {e : Env} {σ : Store} {π : Nat → Nat} {a : Act} {w : World},
    regD P H N ops K n listed G e σ → Sim N σ0 w0 π e σ a w → GI π e w G → wpAnyG P .any ops (QK N σ0 w0 K) n listed (mapG π G) a w := by
  intro n
  induction n with
  | zero =>
    intro listed G e σ π a w h hs hg
    simp only [regD] at h
    split at h
    · rename_i hr; exact ⟨hg.holds, hr, e, σ, π, h, hs⟩
    · exact h.elim
  | succ n ih =>
    intro listed G e σ π a w h hs hg
    simp only [regD] at h
    split at h
    · rename_i hr
      exact ⟨hg.holds, fun _ => ⟨e, σ, π, h, hs⟩, fun i hi => by rw [hr] at hi; cases hi⟩
    · rename_i i0 r0 hr
      split at h
      · rename_i i hp
        obtain ⟨hi, o, ho, hnr⟩ := pickNR_spec hp
        rw [← hr] at hi
        simp only [ho] at h
        obtain ⟨hd, h⟩ := Req_true h
        simp only [Bool.and_eq_true] at hd
        rcases guardK_sound hs h with ⟨hw, e', h, hs', hb⟩ | ⟨hw, e', h, hs', hb⟩
        · obtain ⟨av, fs, cv, hk, hv, hf, hq, hrun⟩ := nrK_sound hs' h
          refine wpAnyG_take (v := cv) (S := fun w => ∀ f ∈ fs, f.holds π w) ho hsel hd.2 hi (fun _ _ _ h => h.elim) (.inl ⟨hw, hrun⟩) ?_
          refine wpAnyG_says _ _ _ _ _ _ mapG_taken (ih _ _ hk (hs'.putO hv hd.1) ?_)
          exact hg.taken (fun k => (putO_box _ _ _ _).trans (box_of_b hb k)) hf fun k ty cs hm => by rw [← box_of_b hb]; exact hq k ty cs hm
        · refine wpAnyG_take (v := undef) (S := fun w => ∀ f ∈ ([] : List Fact), f.holds π w) ho hsel hd.2 hi (fun _ _ _ h => h.elim) (.inr ⟨hw, rfl⟩) ?_
          refine wpAnyG_says _ _ _ _ _ _ mapG_taken (ih _ _ h (hs'.putO rfl hd.1) ?_)
          exact hg.taken (fun k => (putO_box _ _ _ _).trans (box_of_b hb k)) (fun _ hf => by cases hf) fun _ _ _ hm => by cases hm
      · refine ⟨hg.holds, fun h0 => (by rw [hr] at h0; cases h0), fun i hi => ?_⟩
        rw [hr] at hi
        have h := eachK_spec h i hi
        split at h
        · rename_i o ho
          obtain ⟨hd, h⟩ := Req_true h
          unfold wpOp
          simp only [ho]
          rcases guardK_sound hs h with ⟨hw, e', h, hs', hb⟩ | ⟨hw, e', h, hs', hb⟩
          · rw [if_pos hw]
            left
            obtain ⟨hbx, h⟩ := Req_true h
            refine Oper.wp_mono (fun a' w' hp => ?_) (waK_sound hs' hd h)
            obtain ⟨e2, σ2, π2, hk, hs2, hst⟩ := hp
            obtain ⟨hk, hm⟩ := keepsG_spec hk
            have hq : ∀ g ∈ GF.behind ops i G, ∀ k ty cs, Fact.q k ty cs ∈ g.2 → π2 k = π k ∧ e2.box k = some (ty, cs) := fun g hgm k ty cs hf => by
              have hne : boxOf H e' o ≠ some k := by
                intro heq
                rw [heq] at hbx
                exact boxFree_spec hbx g hgm k ty cs hf rfl
              obtain ⟨h1, h2⟩ := hst k hne
              have h3 := (hg g (List.mem_filter.1 hgm).1 _ hf).2 k ty cs rfl
              exact ⟨h1, by rw [h2, box_of_b hb]; exact h3⟩
            refine wpAnyG_says _ _ _ _ _ _ (mapG_behind fun g hgm f hf w hfw => ?_) (ih _ _ hk hs2 fun g hgm f hf => ?_)
            · cases f with
              | m b off vs => exact hfw
              | w b k => exact hfw
              | q k ty cs =>
                have := (hq g hgm k ty cs hf).1
                simp only [Fact.holds] at hfw ⊢
                rw [← this]; exact hfw
            · cases f with
              | m b off vs => exact ⟨cellsAt_world hs2.holds ((hm g hgm).1 b off vs hf), fun _ _ _ heq => by cases heq⟩
              | w b k => exact ⟨hs2.holds b k ((hm g hgm).2 b k hf), fun _ _ _ heq => by cases heq⟩
              | q k ty cs =>
                have := hq g hgm k ty cs hf
                exact ⟨(hs2.boxes k ty cs this.2).1, fun _ _ _ heq => by cases heq; exact this.2⟩
          · rw [if_neg (by simp [hw])]
            refine wpAnyG_says _ _ _ _ _ _ (mapG_behind fun _ _ _ _ _ h => h) (ih _ _ h (hs'.putO rfl hd) ?_)
            exact hg.behind fun k => (putO_box _ _ _ _).trans (box_of_b hb k)
        · exact h.elim

/-! ### Functions -/
theorem lookT_args : ∀ (l : List Value) (j i : Nat), lookT (argsT j l) i = (if j ≤ i then match l[i - j]? with | some v => .v v | none => .u else .u)
  | [], j, i => by simp [argsT, lookT]
  | v :: r, j, i => by
    simp only [argsT, lookT]
    by_cases h : j = i
    · subst h; simp
    · rw [nbeq_ne h]
      simp only []
      rw [lookT_args r (j + 1) i]
      by_cases h2 : j ≤ i
      · have : i - j = (i - (j + 1)) + 1 := by omega
        rw [if_pos h2, if_pos (by omega), this]
        simp
      · rw [if_neg h2, if_neg (by omega)]

def resOf (tmps : Array Value) : ResultVar → Sem Value
  | .tmp t => pure (tmps.getD t undef)
  | .cell a t => do loadVar t (← asAddr (tmps.getD a undef))

theorem resK_sound (hs : Sim N σ0 w0 π e σ a w) : ∀ (rs : List ResultVar) {K : List Value → Prop}, resK P rs e σ K → ∃ l, K l ∧ (rs.mapM (resOf a.tmps)).run P w = .ok l w
  | [], K, h => ⟨[], h, rfl⟩
  | .tmp t :: r, K, h => by
    simp only [resK] at h
    split at h
    · rename_i x hx
      have hv := hs.slots t
      rw [hx] at hv
      have hv : a.tmps.getD t undef = x := hv
      obtain ⟨l, hk, hr⟩ := resK_sound hs r h
      exact ⟨_, hk, by simp [List.mapM_cons, resOf, hv, hr]⟩
    · exact h.elim
  | .cell ad t :: r, K, h => by
    simp only [resK] at h
    split at h
    · rename_i k off hx
      have hv := hs.slots ad
      rw [hx] at hv
      have hv : a.tmps.getD ad undef = .pointer (some ⟨π k, off, none⟩) := hv
      split at h
      · rename_i ty cs hb ht
        have hbox := (hs.boxes _ _ _ hb).1
        split at h
        · rename_i hle
          have hle := Nat.le_of_ble_eq_true hle
          obtain ⟨l, hk, hr⟩ := resK_sound hs r h
          refine ⟨_, hk, ?_⟩
          have : (loadVar t ⟨π k, off, none⟩).run P w = .ok (.agg ((cs.drop off).take (sizeT P t)).toArray) w := run_loadAgg ht (by simp; omega) fun j v hv => by
            rw [Addr.add_lit]
            rw [List.getElem?_take] at hv
            split at hv
            · rw [List.getElem?_drop] at hv; exact box_cell hbox hv
            · cases hv
          simp [List.mapM_cons, resOf, hv, asAddr, this, hr]
        · exact h.elim
      · rename_i ty cs hb ht
        have hbox := (hs.boxes _ _ _ hb).1
        split at h
        · rename_i v hc
          obtain ⟨l, hk, hr⟩ := resK_sound hs r h
          refine ⟨_, hk, ?_⟩
          have : (loadVar t ⟨π k, off, none⟩).run P w = .ok v w := run_loadOne ht (box_cell hbox hc)
          simp [List.mapM_cons, resOf, hv, asAddr, this, hr]
        · exact h.elim
      · exact h.elim
    · rename_i p hx
      have hv := hs.slots ad
      rw [hx] at hv
      have hv : a.tmps.getD ad undef = .pointer p := hv
      obtain ⟨b, off, rfl, h2⟩ := PtrNN_some h
      obtain ⟨v, fs, hk, hf, _, hrun⟩ := loadT_sound (π := π) hs.holds h2
      obtain ⟨l, hk, hr⟩ := resK_sound hs r hk
      refine ⟨_, hk, ?_⟩
      simp [List.mapM_cons, resOf, hv, asAddr, hrun w hf, hr]
    · exact h.elim

theorem results_run {fn : Func} {tmps : Array Value} {l : List Value} (h : (fn.results.toList.mapM (resOf tmps)).run P w = .ok l w) :
    (results fn tmps).run P w = .ok (resV l) w := by
  unfold results
  have hf : (fun x => match x with
      | .tmp t => (pure (tmps.getD t undef) : Sem Value)
      | .cell a t => do loadVar t (← asAddr (tmps.getD a undef))) = resOf tmps := by
    funext x; cases x <;> rfl
  have : (fn.results.mapM (resOf tmps)).run P w = .ok l.toArray w := by
    rw [Array.mapM_eq_mapM_toList]
    simp [h]
  rw [Sem.run_bind]
  erw [hf, this]
  simp only [Result.andThen_ok, Sem.run_pure, resV]
  match l with
  | [] => rfl
  | [x] => rfl
  | x :: y :: r => simp

theorem Spec.mono {f : FuncId} {args : List Value} {K K' : Value → Store → Prop} (h : Spec P f args σ K) (hk : ∀ v σ', K v σ' → K' v σ') : Spec P f args σ K' :=
  fun w hw => (h w hw).mono fun _ _ ⟨v, σ', he, h1, h2, h3⟩ => ⟨v, σ', he, hk _ _ h1, h2, h3⟩

/-- What the caller need not know may be forgotten. -/
theorem Spec.shrink {f : FuncId} {args : List Value} {K : Value → Store → Prop} (h : Spec P f args σ fun v σ' => ∃ σ'', σ''.le σ' ∧ K v σ'') : Spec P f args σ K :=
  fun w hw => (h w hw).mono fun _ _ ⟨v, _, he, ⟨σ'', hl, hk⟩, h2, h3⟩ => ⟨v, σ'', he, hk, h2.mono hl, h3.shrink hl⟩

end
end Go.Ev
