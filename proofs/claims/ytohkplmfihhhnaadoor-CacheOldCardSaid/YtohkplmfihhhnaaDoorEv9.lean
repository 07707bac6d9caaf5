/-
  The evaluator, part 9: each writing operation of the executor is sound.
  Conditions: none.
-/
import Derived.Test.YtohkplmfihhhnaaDoorEv8
namespace Go.Ev
open Go

section
variable {P : Program} {N : Nat} {σ0 σ σ' : Store} {w0 w w' : World} {π : Nat → Nat} {e : Env} {a : Act} {H : Hints}

def WPost (N : Nat) (σ0 : Store) (w0 : World) (H : Hints) (o : Oper) (π : Nat → Nat) (e : Env) (K : Env → Store → Prop) (a' : Act) (w' : World) : Prop :=
  ∃ e' σ' π', K e' σ' ∧ Sim N σ0 w0 π' e' σ' a' w' ∧ ∀ k, boxOf H e o ≠ some k → π' k = π k ∧ e'.box k = e.box k

theorem putO_box (e : Env) (d : Option Nat) (v : AV) (k : Nat) : (e.putO d v).box k = e.box k := by cases d <;> rfl

/-- An operation that gives a value, by what it does to the store. -/
theorem wa_value {o : Oper} {s : Sem Value} {K : Env → Store → Prop} {Q : Exit → Act → World → Prop} (hs : Sim N σ0 w0 π e σ a w) (hd : inN N o.dst = true)
    (he : execOp a.eval o = (do pure (.value (← s)))) (h : semA P s σ fun v σ' => K (e.putO o.dst (.v v)) σ') :
    o.wp P a w (WPost N σ0 w0 H o π e K) Q := by
  obtain ⟨v, w', σ', hr, hk, hh, hx⟩ := semA_run s h hs.holds
  unfold Oper.wp
  rw [he]
  simp only [Sem.run_bind, hr, Result.andThen_ok, Sem.run_pure, Oper.upon_value]
  exact ⟨_, σ', π, hk, (hs.step hh hx).putO rfl hd, fun k _ => ⟨rfl, putO_box _ _ _ _⟩⟩

theorem cells_size (v : Value) : v.cells.toList.length = v.cells.size := by simp

theorem box_sound {o : Oper} {t : TypeId} {x : Operand} {K : Env → Store → Prop} {Q : Exit → Act → World → Prop} (ho : o.op = .box t x) (hs : Sim N σ0 w0 π e σ a w) (hd : inN N o.dst = true)
    (h : waK P H o e σ K) : o.wp P a w (WPost N σ0 w0 H o π e K) Q := by
  unfold waK at h
  simp only [ho] at h
  split at h
  · rename_i d v hdst hx
    have hx' := hs.evv hx
    split at h
    · refine wa_value (s := Instr.box t v) hs hd (by simp [execOp, ho, hx']) ?_
      show semA P (newVar t v >>= fun p => pure (Value.pointer (some p))) σ _
      intro b hb
      have := h b hb
      rw [hdst]
      exact this
    · rename_i hesc
      unfold Oper.wp
      have hrun : (execOp a.eval o).run P w = .ok (.value (.pointer (some ⟨w.heap.size, 0, none⟩))) { w with heap := w.heap.push (.cells v.cells t) } := by
        simp [execOp, ho, hx', Instr.box, newVar, newRow, newObj, Sem.run]
      rw [hrun, Oper.upon_value]
      have hb := hs.box_ d t v.cells.toList
      refine ⟨_, σ, fun k => if k = d then w.heap.size else π k, h, ?_, fun k hk => ?_⟩
      · rw [hdst]
        have := hb.put (d := d) (av := .p d 0) (cv := .pointer (some ⟨w.heap.size, 0, none⟩)) (by simp [VRel]) (by rw [hdst] at hd; simpa [inN] using hd)
        simpa using this
      · have hk' : k ≠ d := by
          rintro rfl
          simp [boxOf, ho, hdst, hesc] at hk
        refine ⟨by simp [hk'], ?_⟩
        show lookB ((d, t, v.cells.toList) :: e.b) k = _
        rw [lookB_put, if_neg (Ne.symm hk')]
        rfl
  · exact h.elim

theorem alloc_sound {o : Oper} {t : TypeId} {K : Env → Store → Prop} {Q : Exit → Act → World → Prop} (ho : o.op = .alloc t) (hs : Sim N σ0 w0 π e σ a w) (hd : inN N o.dst = true)
    (h : waK P H o e σ K) : o.wp P a w (WPost N σ0 w0 H o π e K) Q := by
  unfold waK at h
  simp only [ho] at h
  split at h
  · rename_i d v hdst hz
    split at h
    · refine wa_value (s := Instr.alloc t true (.tuple #[])) hs hd (by simp [execOp, ho]) ?_
      unfold Instr.alloc
      rw [semA_b, semA_zero hz]
      show semA P (newVar t v >>= fun p => pure (Value.pointer (some p))) σ _
      intro b hb
      have := h b hb
      rw [hdst]
      exact this
    · rename_i hesc
      unfold Oper.wp
      have hzr : (zeroValue t).run P w = .ok v w := by
        unfold zeroOf at hz
        split at hz
        · rename_i i hi; simp [zeroValue, typeInfo, hi, hz]
        · cases hz
      have hrun : (execOp a.eval o).run P w = .ok (.value (.pointer (some ⟨w.heap.size, 0, none⟩))) { w with heap := w.heap.push (.cells v.cells t) } := by
        simp [execOp, ho, Instr.alloc, hzr, newVar, newRow, newObj, Sem.run]
      rw [hrun, Oper.upon_value]
      have hb := hs.box_ d t v.cells.toList
      refine ⟨_, σ, fun k => if k = d then w.heap.size else π k, h, ?_, fun k hk => ?_⟩
      · rw [hdst]
        have := hb.put (d := d) (av := .p d 0) (cv := .pointer (some ⟨w.heap.size, 0, none⟩)) (by simp [VRel]) (by rw [hdst] at hd; simpa [inN] using hd)
        simpa using this
      · have hk' : k ≠ d := by
          rintro rfl
          simp [boxOf, ho, hdst, hesc] at hk
        refine ⟨by simp [hk'], ?_⟩
        show lookB ((d, t, v.cells.toList) :: e.b) k = _
        rw [lookB_put, if_neg (Ne.symm hk')]
        rfl
  · exact h.elim

theorem bsCells_sound {o : Oper} {t : TypeId} {len : Nat} {ps : Array (Nat × Operand)} {K : Env → Store → Prop} {Q : Exit → Act → World → Prop} (ho : o.op = .buildSlice t len ps) (hs : Sim N σ0 w0 π e σ a w) (hd : inN N o.dst = true)
    {d el : Nat} {cs : List Value} (hdst : o.dst = some d) (hall : allV e (ps.toList.map (·.2)) = true) (hbs : bsCells P t len (ps.toList.map fun x => (x.1, e.evV x.2)) = some (el, cs))
    (h : match memN H.esc d with
        | true => New σ ⟨el, cs, (0, 0)⟩ fun b σ' => K (e.put d (.v (.slice (some ⟨b, 0, none⟩) len len))) σ'
        | false => K ((e.alloc d el cs).put d (.s d len)) σ) : o.wp P a w (WPost N σ0 w0 H o π e K) Q := by
  have hps : (ps.map fun (i, x) => (i, a.eval x)).toList = ps.toList.map fun x => (x.1, e.evV x.2) := by
    rw [Array.toList_map]
    refine List.map_congr_left fun x hx => ?_
    obtain ⟨i, y⟩ := x
    simp only [hs.evV hall y (List.mem_map.2 ⟨(i, y), hx, rfl⟩)]
  rw [← hps] at hbs
  split at h
  · refine wa_value (s := Instr.buildSlice t len (ps.map fun (i, x) => (i, a.eval x))) hs hd (by simp [execOp, ho]) ?_
    refine semA_buildSlice hbs fun b hb => ?_
    have := h b hb
    rw [hdst]
    exact this
  · rename_i hesc
    -- the run itself: one new block at the heap's end
    have hrun : (execOp a.eval o).run P w = .ok (.value (.slice (some ⟨w.heap.size, 0, none⟩) len len)) { w with heap := w.heap.push (.cells cs.toArray el) } := by
      unfold bsCells at hbs
      split at hbs
      · rename_i el' hu
        split at hbs
        · rename_i z hz
          split at hbs
          · rename_i cs' hle hf
            simp only [Option.some.injEq, Prod.mk.injEq] at hbs
            obtain ⟨rfl, rfl⟩ := hbs
            obtain ⟨i, hi⟩ := info_of_zero hz
            have hle := Nat.le_of_ble_eq_true hle
            have hzr : (zeroValue el').run P w = .ok z w := by
              unfold zeroOf at hz
              rw [hi] at hz
              simp only at hz
              simp [zeroValue, typeInfo, hi, hz]
            have e24 : (2 : Nat) ^ 24 = 16777216 := by decide
            have hle' : ¬ len * sizeT P el' > 2 ^ 24 := by omega
            by_cases hn : len * sizeT P el' = 0
            · have hr : ∀ z0 : Array Value, (Array.range (len * sizeT P el')).map (z0[· % z0.size]!) = #[] := fun z0 => by rw [hn]; simp
              rw [hr] at hf
              simp only [execOp, ho, Instr.buildSlice, Sem.run_bind, run_underlying hu, Result.andThen_ok, run_sizeOf hi, if_neg hle', if_pos hn, Sem.run_pure, hr, hf]
              simp [newRow, newObj, Sem.run]
            · simp only [execOp, ho, Instr.buildSlice, Sem.run_bind, run_underlying hu, Result.andThen_ok, run_sizeOf hi, if_neg hle', if_neg hn, Sem.run_pure, hzr, hf]
              simp [newRow, newObj, Sem.run]
          · cases hbs
        · cases hbs
      · cases hbs
    unfold Oper.wp
    rw [hrun, Oper.upon_value]
    have hb := hs.box_ d el cs
    refine ⟨_, σ, fun k => if k = d then w.heap.size else π k, h, ?_, fun k hk => ?_⟩
    · rw [hdst]
      have := hb.put (d := d) (av := .s d len) (cv := .slice (some ⟨w.heap.size, 0, none⟩) len len) (by simp [VRel]) (by rw [hdst] at hd; simpa [inN] using hd)
      simpa using this
    · have hk' : k ≠ d := by
        rintro rfl
        simp [boxOf, ho, hdst, hesc] at hk
      refine ⟨by simp [hk'], ?_⟩
      show lookB ((d, el, cs) :: e.b) k = _
      rw [lookB_put, if_neg (Ne.symm hk')]
      rfl

/-- Elements that are set one after the other. -/
theorem foldl_splice : ∀ (vs : List Value) (k off : Nat) (A : Array Value), (vs.zipIdx k).foldl (fun cs (c, j) => cs.setIfInBounds (off + j) c) A = (spliceL A.toList (off + k) vs).toArray
  | [], k, off, A => by simp [spliceL]
  | v :: r, k, off, A => by
    rw [List.zipIdx_cons, List.foldl_cons, foldl_splice r]
    simp [spliceL, Nat.add_assoc]

theorem spliceL_eq' : ∀ (vs cs : List Value) (off : Nat), off + vs.length ≤ cs.length → spliceL cs off vs = cs.take off ++ vs ++ cs.drop (off + vs.length)
  | [], cs, off, h => by simp [spliceL]
  | v :: r, cs, off, h => by
    have h1 : off < cs.length := by simp at h; omega
    unfold spliceL
    rw [spliceL_eq' r _ _ (by simp at h ⊢; omega)]
    have e1 : (cs.set off v).take (off + 1) = cs.take off ++ [v] := by
      rw [List.take_succ_eq_append_getElem (by simpa using h1), List.getElem_set_self, List.take_set_of_le (Nat.le_refl _)]
    have e2 : (cs.set off v).drop (off + 1 + r.length) = cs.drop (off + (v :: r).length) := by
      rw [List.drop_set_of_lt (by omega)]; congr 1; simp; omega
    rw [e1, e2]; simp

theorem one_cells {v : Value} (h : one v = true) : v.cells.toList = [v] := by
  cases v <;> first | rfl | (simp [one] at h)

theorem fill_whole {ag : Bool} {sz : Nat} (hag : ag = false → sz = 1) : ∀ (parts : List (Nat × Value)) (i : Nat) (A : Array Value) (l : List Value), wholeParts ag i parts = some l → wholeReq ag sz parts = true →
    A.size = (i + parts.length) * sz → Instr.fill (fun i => some (i * sz, sz)) A parts = some (A.toList.take (i * sz) ++ l).toArray
  | [], i, A, l, h, _, hA => by
    simp only [wholeParts, Option.some.injEq] at h
    subst h
    simp only [List.length_nil, Nat.add_zero] at hA
    rw [List.take_of_length_le (by simp [hA])]
    simp [Instr.fill]
  | (j, v) :: r, i, A, l, h, hq, hA => by
    unfold wholeParts at h
    split at h
    · rename_i l' hij hl'
      have hij := Nat.eq_of_beq_eq_true hij
      subst hij
      simp only [Option.some.injEq] at h
      unfold wholeReq at hq
      rw [Bool.and_eq_true] at hq
      obtain ⟨hv, hq⟩ := hq
      have hc : v.cells.toList ++ l' = l ∧ v.cells.toList.length = sz := by
        cases ag with
        | true => exact ⟨h, Nat.eq_of_beq_eq_true hv⟩
        | false =>
          have h1 := one_cells hv
          exact ⟨by rw [h1]; exact h, by rw [h1]; exact (hag rfl).symm⟩
      replace h := hc.1
      have hvs : v.cells.size = sz := by rw [← hc.2]; simp
      have hlen : i * sz + v.cells.toList.length ≤ A.toList.length := by
        rw [hc.2, Array.length_toList, hA, List.length_cons, ← Nat.succ_mul]
        exact Nat.mul_le_mul_right _ (by omega)
      have hfold : v.cells.zipIdx.foldl (fun cs (c, j) => cs.setIfInBounds (i * sz + j) c) A = (spliceL A.toList (i * sz) v.cells.toList).toArray := by
        have := foldl_splice v.cells.toList 0 (i * sz) A
        rw [← Array.foldl_toList, Array.toList_zipIdx]
        exact this
      unfold Instr.fill
      simp only
      rw [if_neg (by
        simp only [Array.length_toList] at hlen
        simp; omega), hfold]
      have hsz : (spliceL A.toList (i * sz) v.cells.toList).toArray.size = (i + 1 + r.length) * sz := by
        have : (spliceL A.toList (i * sz) v.cells.toList).length = A.size := by
          rw [spliceL_eq' _ _ _ hlen]; simp only [List.length_append, List.length_take, List.length_drop, Array.length_toList] at hlen ⊢; omega
        rw [List.size_toArray, this, hA, List.length_cons]; congr 1; omega
      rw [fill_whole hag r (i + 1) _ l' hl' hq hsz, ← h]
      congr 2
      rw [spliceL_eq' _ _ _ hlen, Nat.succ_mul, ← List.append_assoc]
      congr 1
      have : (A.toList.take (i * sz) ++ v.cells.toList).length = i * sz + sz := by
        rw [List.length_append, hc.2, List.length_take, Nat.min_eq_left (by omega)]
      rw [List.take_append_of_le_length (by rw [this]; exact Nat.le_refl _), List.take_of_length_le (by rw [this]; exact Nat.le_refl _)]
    · cases h

theorem bsWhole_cells {t : TypeId} {len : Nat} {parts : List (Nat × Value)} {el : TypeId} {cs : List Value} (h : bsWhole P t len parts = some (el, cs, true)) : bsCells P t len parts = some (el, cs) := by
  unfold bsWhole at h
  split at h
  · rename_i el' hu
    split at h
    · rename_i z ag hz hag
      split at h
      · rename_i cs' hle hlen h1 hw
        simp only [Option.some.injEq, Prod.mk.injEq] at h
        obtain ⟨rfl, rfl, hreq⟩ := h
        have hlen := Nat.eq_of_beq_eq_true hlen
        unfold bsCells
        simp only [hu, hz, hle]
        rw [fill_whole (sz := sizeT P el') (fun e => by subst e; exact Nat.eq_of_beq_eq_true h1) parts 0 _ cs' hw hreq (by simp [hlen])]
        simp
      · cases h
    · cases h
  · cases h

theorem buildSlice_sound {o : Oper} {t : TypeId} {len : Nat} {ps : Array (Nat × Operand)} {K : Env → Store → Prop} {Q : Exit → Act → World → Prop} (ho : o.op = .buildSlice t len ps) (hs : Sim N σ0 w0 π e σ a w) (hd : inN N o.dst = true)
    (h : waK P H o e σ K) : o.wp P a w (WPost N σ0 w0 H o π e K) Q := by
  unfold waK at h
  simp only [ho] at h
  split at h
  · split at h
    · rename_i d el cs ok hdst hall hbs
      obtain ⟨hok, h⟩ := Req_true h
      subst hok
      exact bsCells_sound ho hs hd hdst hall (bsWhole_cells hbs) h
    · exact h.elim
  · split at h
    · rename_i d el cs hdst hall hbs
      exact bsCells_sound ho hs hd hdst hall hbs h
    · exact h.elim

theorem makeSlice_sound {o : Oper} {t : TypeId} {l c : Operand} {K : Env → Store → Prop} {Q : Exit → Act → World → Prop} (ho : o.op = .makeSlice t l c) (hs : Sim N σ0 w0 π e σ a w) (hd : inN N o.dst = true)
    (h : waK P H o e σ K) : o.wp P a w (WPost N σ0 w0 H o π e K) Q := by
  unfold waK at h
  simp only [ho] at h
  split at h
  · rename_i el kl l' kc c' hu hl hc
    split at h
    · rename_i z hz
      obtain ⟨hsz, h⟩ := Req_true h
      obtain ⟨i, hi⟩ := info_of_zero hz
      refine wa_value (s := Instr.makeSlice t (.int kl l') (.int kc c')) hs hd (by simp [execOp, ho, hs.evv hl, hs.evv hc]) ?_
      exact semA_make hu hi hz (Nat.eq_of_beq_eq_true hsz) h
    · exact h.elim
  · exact h.elim

/-- A store that knows one block more. -/
theorem Holds.add (h : Holds σ w) {b : Nat} {k : Blk} (hb : w.heap[b]? = some k.obj) : Holds (σ.set b k) w := by
  intro i j hi
  unfold Store.set at hi
  split at hi
  · rename_i he; subst he; cases hi; exact hb
  · exact h i j hi

theorem store_sound {o : Oper} {t : TypeId} {x y : Operand} {K : Env → Store → Prop} {Q : Exit → Act → World → Prop} (ho : o.op = .store t x y) (hs : Sim N σ0 w0 π e σ a w) (hd : inN N o.dst = true)
    (h : waK P H o e σ K) : o.wp P a w (WPost N σ0 w0 H o π e K) Q := by
  unfold waK at h
  simp only [ho] at h
  obtain ⟨hpos, h⟩ := Req_true h
  have hpos := blt_pos hpos
  obtain ⟨i, hi⟩ := info_of_size hpos
  have nn : ∀ l : List Value, l.length = sizeT P t → l ≠ [] := fun l hl he => by subst he; simp at hl; omega
  split at h
  · rename_i k off v hx hy
    split at h
    · rename_i ty cs hb
      split at h
      · rename_i hl hle h1
        have hl := Nat.eq_of_beq_eq_true hl
        have hle := Nat.le_of_ble_eq_true hle
        obtain ⟨g1, g2, g3⟩ := hs.boxes k ty cs hb
        have hh := hs.holds.add (k := ⟨ty, cs, (0, 0)⟩) g1
        have hsem : semA P (storeVar t ⟨π k, off, none⟩ v) (σ.set (π k) ⟨ty, cs, (0, 0)⟩) fun _ τ => τ = σ.set (π k) ⟨ty, spliceL cs off v.cells.toList, (0, 0)⟩ := by
          refine semA_storeVar hi ⟨hl, h1, ⟨ty, cs, (0, 0)⟩, set_eq, hle, rfl, ?_⟩ (nn _ hl)
          rw [Store.set_set]
        obtain ⟨u, w', τ, hr, rfl, hh', hx'⟩ := semA_run _ hsem hh
        unfold Oper.wp
        have hrun : (execOp a.eval o).run P w = .ok .skip w' := by simp [execOp, ho, hs.evp hx, hs.evv hy, Instr.storeAt, Instr.sureAddr, hr]
        rw [hrun, Oper.upon_skip]
        refine ⟨_, σ, π, h, (hs.wrote hb hh' hx').putO trivial hd, fun j hj => ⟨rfl, ?_⟩⟩
        rw [putO_box]
        have hj' : k ≠ j := by rintro rfl; simp [boxOf, ho, hx] at hj
        show lookB ((k, ty, _) :: e.b) j = _
        rw [lookB_put, if_neg hj']
        rfl
      · exact h.elim
    · exact h.elim
  · rename_i p v hx hy
    obtain ⟨b, off, rfl, h2⟩ := PtrNN_some h
    have hsem : semA P (storeVar t ⟨b, off, none⟩ v) σ fun _ τ => K (e.putO o.dst .u) τ := semA_storeVar hi h2 (nn _ h2.1)
    obtain ⟨u, w', τ, hr, hk, hh', hx'⟩ := semA_run _ hsem hs.holds
    unfold Oper.wp
    have hrun : (execOp a.eval o).run P w = .ok .skip w' := by simp [execOp, ho, hs.evv hx, hs.evv hy, Instr.storeAt, Instr.sureAddr, hr]
    rw [hrun, Oper.upon_skip]
    exact ⟨_, τ, π, hk, (hs.step hh' hx').putO trivial hd, fun k _ => ⟨rfl, putO_box _ _ _ _⟩⟩
  · exact h.elim

/-- Where append's new cells lie in a private box. -/
theorem AppK_add {ty : TypeId} {esz eb : Nat} {zs : List Value} {b0 : Nat} {k0 : Blk} (h0 : σ b0 = none) {sl : Option Addr} {n c : Nat} {ys : List Value} {m : Nat} {K : Option Addr → Nat → Nat → Store → Prop}
    (h : AppK ty esz eb zs σ sl n c ys m K) :
    AppK ty esz eb zs (σ.set b0 k0) sl n c ys m fun a' n' c' τ => ∃ σ', K a' n' c' σ' ∧ σ'.le τ ∧ σ' b0 = none ∧ τ b0 = some k0 := by
  have hle : σ.le (σ.set b0 k0) := fun b x hx => by rw [set_ne (by rintro rfl; rw [h0] at hx; cases hx)]; exact hx
  have hle2 : ∀ b k, b ≠ b0 → (σ.set b k).le ((σ.set b0 k0).set b k) := fun b k hb i x hx => by
    unfold Store.set at hx ⊢
    by_cases h1 : i = b
    · simp [h1] at hx ⊢; exact hx
    · simp only [if_neg h1] at hx ⊢
      rw [if_neg (by rintro rfl; rw [h0] at hx; cases hx)]
      exact hx
  obtain ⟨g0, g1, g2⟩ := h
  refine ⟨fun hm => ⟨(g0 hm).1, σ, (g0 hm).2, hle, h0, set_eq⟩, fun hm hl => ?_, fun hm hl => ?_⟩
  · obtain ⟨b, off, k, he, hk, h1, h2, h3, h4, g1⟩ := g1 hm hl
    have hb : b ≠ b0 := by rintro rfl; rw [h0] at hk; cases hk
    refine ⟨b, off, k, he, hle b k hk, h1, h2, h3, h4, _, g1, hle2 b _ hb, ?_, ?_⟩
    · rw [set_ne (Ne.symm hb)]; exact h0
    · rw [set_ne (Ne.symm hb)]; exact set_eq
  · obtain ⟨h1, h2, old, ho, g2⟩ := g2 hm hl
    refine ⟨h1, h2, old, ?_, fun c' b hc hb => ?_⟩
    · unfold srcCells at ho ⊢
      split
      · rename_i hz; rw [if_pos hz] at ho; exact ho
      · rename_i hz
        rw [if_neg hz] at ho
        split at ho
        · rename_i b o
          unfold cellsAt at ho ⊢
          cases hb : σ b with
          | none => simp [hb] at ho
          | some k => rw [hb] at ho; rw [hle b k hb]; exact ho
        · cases ho
    · have hb' : b ≠ b0 := by rintro rfl; rw [set_eq] at hb; cases hb
      rw [set_ne hb'] at hb
      refine ⟨_, g2 c' b hc hb, hle2 b _ hb', ?_, ?_⟩
      · rw [set_ne (Ne.symm hb')]; exact h0
      · rw [set_ne (Ne.symm hb')]; exact set_eq

/-- A later world, known over a store that knows one private box besides. -/
theorem Sim.stepBox (h : Sim N σ0 w0 π e σ a w) {k : Nat} {ty : TypeId} {cs : List Value} (hb : e.box k = some (ty, cs)) {τ : Store}
    (hh : Holds τ w') (he : Ext (σ.set (π k) ⟨ty, cs, (0, 0)⟩) τ w w') (hle : σ'.le τ) (h0 : σ' (π k) = none) (h1 : τ (π k) = some ⟨ty, cs, (0, 0)⟩) :
    Sim N σ0 w0 π e σ' a w' := by
  obtain ⟨g1, g2, g3⟩ := h.boxes k ty cs hb
  have hlt : ∀ j ty cs, e.box j = some (ty, cs) → π j < w.heap.size := fun j ty cs hj => by
    have h1 := (h.boxes j ty cs hj).1
    rcases Nat.lt_or_ge (π j) w.heap.size with hl | hl
    · exact hl
    · rw [Array.getElem?_eq_none hl] at h1; cases h1
  refine ⟨hh.mono hle, ⟨he.os.trans h.ext.os, he.tape.trans h.ext.tape, he.output.trans h.ext.output, Nat.le_trans h.ext.size he.size, fun b hb' hn => ?_, fun b hb' => ?_⟩, h.size, h.defers, h.slots, fun j ty' cs' hj => ?_, h.inj⟩
  · have hbk : b ≠ π k := by omega
    have hs : σ b = none := by
      cases hs : σ b with
      | none => rfl
      | some x =>
        rcases h.ext.dom b (by rw [hs]; simp) with h4 | h4
        · exact absurd hn h4
        · omega
    rw [he.keep b (Nat.lt_of_lt_of_le hb' h.ext.size) (by rw [set_ne hbk]; exact hs)]
    exact h.ext.keep b hb' hn
  · cases hs : σ' b with
    | none => exact absurd hs hb'
    | some x =>
      rcases he.dom b (by rw [hle b x hs]; simp) with h4 | h4
      · by_cases hbk : b = π k
        · exact .inr (by omega)
        · rw [set_ne hbk] at h4; exact h.ext.dom b h4
      · exact .inr (Nat.le_trans h.ext.size h4)
  · by_cases hjk : j = k
    · subst hjk
      rw [hb] at hj
      cases hj
      exact ⟨hh _ _ h1, h0, g3⟩
    · obtain ⟨f1, f2, f3⟩ := h.boxes j ty' cs' hj
      have hne : π j ≠ π k := fun heq => hjk (h.inj j k _ _ hj hb heq)
      have hl := hlt j ty' cs' hj
      refine ⟨by rw [he.keep _ hl (by rw [set_ne hne]; exact f2)]; exact f1, ?_, f3⟩
      cases hn : σ' (π j) with
      | none => rfl
      | some x =>
        rcases he.dom (π j) (by rw [hle _ x hn]; simp) with h4 | h4
        · rw [set_ne hne] at h4; exact absurd f2 h4
        · omega

theorem vals_eq {xs : List Operand} (hs : Sim N σ0 w0 π e σ a w) (h : allV e xs = true) : xs.map a.eval = vals e xs := by
  induction xs with
  | nil => rfl
  | cons x r ih =>
    have hx := hs.evV h x (List.mem_cons_self ..)
    have hr : allV e r = true := by
      simp only [allV] at h
      split at h
      · exact h
      · cases h
    simp only [List.map_cons, vals, hx, ih hr]

theorem callee_sound {o : Oper} {c : Call} {f : Operand} {K : Env → Store → Prop} {Q : Exit → Act → World → Prop} (ho : o.op = .call c) (hc : c.callee = .value f) (hs : Sim N σ0 w0 π e σ a w) (hd : inN N o.dst = true)
    (h : waK P H o e σ K) : o.wp P a w (WPost N σ0 w0 H o π e K) Q := by
  unfold waK at h
  simp only [ho, hc] at h
  split at h
  · rename_i g first captured hf hall
    have hf := hs.evv hf
    unfold callK at h
    split at h
    · rename_i hcall
      have h : Spec P g (first.toList ++ vals e c.args.toList ++ captured.toList) σ fun v σ' => K (e.putO o.dst (.v v)) σ' := by
        split at h
        · intro w hw
          refine (h w hw).mono fun en w' hp => ?_
          obtain ⟨v, σ', rfl, ⟨l, rfl, hk⟩, hh, hx⟩ := hp
          exact ⟨_, σ', rfl, hk, hh, hx⟩
        · intro w hw
          refine (h w hw).mono fun en w' hp => ?_
          obtain ⟨v, σ', rfl, hk, hh, hx⟩ := hp
          exact ⟨_, σ', rfl, resT_some hk, hh, hx⟩
      have hw := h w hs.holds
      unfold callable at hcall
      split at hcall
      · rename_i fn hfn
        simp only [Bool.and_eq_true, Bool.not_eq_true'] at hcall
        have hargs : (first ++ c.args.map a.eval ++ captured) = (first.toList ++ vals e c.args.toList ++ captured.toList).toArray := by
          rw [← vals_eq hs hall]
          apply Array.toList_inj.1
          simp
        have hnb : fn.body.isNone = false := by
          cases hb : fn.body with
          | none => rw [hb] at hcall; simp at hcall
          | some b => rfl
        have hrun : (execOp a.eval o).run P w = .ok (.enter g (first.toList ++ vals e c.args.toList ++ captured.toList).toArray) w := by
          have hcf : ∀ xs : Array Value, (callFunc g xs).run P w = .ok (.enter g xs) w := fun xs => by
            show ((match P.funcs[g]? with
              | none => stuck "call: no such function"
              | some fn => _) : Sem Next).run P w = _
            rw [hfn]
            simp only [hcall.2, hnb, Bool.false_eq_true, if_false]
            rfl
          rw [← hargs, ← hcf]
          simp [execOp, ho, resolve, hc, hf, Deferred.ofValue, invoke]
        unfold Oper.wp
        rw [hrun, Oper.upon_enter]
        refine hw.mono fun en w' hp => ?_
        obtain ⟨v, σ', rfl, hk, hh, hx⟩ := hp
        exact ⟨_, σ', π, hk, (hs.step hh hx).putO rfl hd, fun k _ => ⟨rfl, putO_box _ _ _ _⟩⟩
      · cases hcall
    · exact h.elim
  · exact h.elim

theorem arr1 {α : Type} {xs : Array α} {x : α} (h : xs.toList = [x]) : xs = #[x] := by rw [← Array.toArray_toList (xs := xs), h]
theorem arr2 {α : Type} {xs : Array α} {x y : α} (h : xs.toList = [x, y]) : xs = #[x, y] := by rw [← Array.toArray_toList (xs := xs), h]

theorem append_sound {o : Oper} {c : Call} {K : Env → Store → Prop} {Q : Exit → Act → World → Prop} (ho : o.op = .call c) (hc : c.callee = .builtin .append) (hs : Sim N σ0 w0 π e σ a w) (hd : inN N o.dst = true)
    (h : waK P H o e σ K) : o.wp P a w (WPost N σ0 w0 H o π e K) Q := by
  unfold waK at h
  simp only [ho, hc] at h
  split at h
  · rename_i t1 t2 x y ht hxy
    have ht := arr2 ht
    have hxy := arr2 hxy
    split at h
    · rename_i el el2 hu1 hu2
      split at h
      · rename_i z sl n cp sl2 m c2 hz hx hy
        obtain ⟨i, hi⟩ := info_of_zero hz
        obtain ⟨ys, hys, h⟩ := h
        refine wa_value (s := Builtin.append_ #[t1, t2] o.type #[.slice sl n cp, .slice sl2 m c2]) hs hd (by simp [execOp, ho, resolve, hc, hxy, ht, hs.evv hx, hs.evv hy, invoke, builtin]) ?_
        exact semA_append hu1 hu2 hi hz hys h
      · rename_i z sl n cp k m hz hx hy
        obtain ⟨i, hi⟩ := info_of_zero hz
        split at h
        · rename_i ty ys hb
          split at h
          · rename_i hlen
            have hlen := Nat.eq_of_beq_eq_true hlen
            obtain ⟨g1, g2, g3⟩ := hs.boxes k ty ys hb
            have hsem : semA P (Builtin.append_ #[t1, t2] o.type #[.slice sl n cp, .slice (some ⟨π k, 0, none⟩) m m]) (σ.set (π k) ⟨ty, ys, (0, 0)⟩)
                fun v τ => ∃ σ', K (e.putO o.dst (.v v)) σ' ∧ σ'.le τ ∧ σ' (π k) = none ∧ τ (π k) = some ⟨ty, ys, (0, 0)⟩ := by
              refine semA_append hu1 hu2 hi hz ?_ (AppK_add g2 h)
              unfold srcCells
              split
              · rename_i h0; rw [h0] at hlen; rw [List.eq_nil_of_length_eq_zero hlen]
              · simp [cellsAt, set_eq, ← hlen]
            obtain ⟨v, w', τ, hr, ⟨σ', hk, hle, h0, h1⟩, hh, hx'⟩ := semA_run _ hsem (hs.holds.add (k := ⟨ty, ys, (0, 0)⟩) g1)
            have hrun : (execOp a.eval o).run P w = .ok (.value v) w' := by
              simp [execOp, ho, resolve, hc, hxy, ht, hs.evv hx, hs.evs hy, invoke, builtin, hr]
            unfold Oper.wp
            rw [hrun, Oper.upon_value]
            exact ⟨_, σ', π, hk, (hs.stepBox hb hh hx' hle h0 h1).putO rfl hd, fun k _ => ⟨rfl, putO_box _ _ _ _⟩⟩
          · exact h.elim
        · exact h.elim
      · exact h.elim
    · rename_i el ik hu1 hu2
      split at h
      · rename_i z sl n cp ki l hz hx hy
        obtain ⟨i, hi⟩ := info_of_zero hz
        obtain ⟨hz2, h⟩ := Req_true h
        refine wa_value (s := Builtin.append_ #[t1, t2] o.type #[.slice sl n cp, .int ki l]) hs hd (by simp [execOp, ho, resolve, hc, hxy, ht, hs.evv hx, hs.evv hy, invoke, builtin]) ?_
        exact semA_appendN hu1 hu2 hi hz (Nat.eq_of_beq_eq_true hz2) h
      · exact h.elim
    · exact h.elim
  · exact h.elim

theorem copy_sound {o : Oper} {c : Call} {K : Env → Store → Prop} {Q : Exit → Act → World → Prop} (ho : o.op = .call c) (hc : c.callee = .builtin .copy) (hs : Sim N σ0 w0 π e σ a w) (hd : inN N o.dst = true)
    (h : waK P H o e σ K) : o.wp P a w (WPost N σ0 w0 H o π e K) Q := by
  unfold waK at h
  simp only [ho, hc] at h
  split at h
  · rename_i t1 t2 x y ht hxy
    have ht := arr2 ht
    have hxy := arr2 hxy
    split at h
    · rename_i el hu1
      split at h
      · rename_i sl n cp sl2 m c2 hx hy
        obtain ⟨hz, h⟩ := Req_true h
        obtain ⟨i, hi⟩ := info_of_size (blt_pos hz)
        refine wa_value (s := Builtin.copy_ #[t1, t2] o.type #[.slice sl n cp, .slice sl2 m c2]) hs hd (by simp [execOp, ho, resolve, hc, hxy, ht, hs.evv hx, hs.evv hy, invoke, builtin]) ?_
        exact semA_copy hu1 hi h
      · exact h.elim
    · exact h.elim
  · exact h.elim

theorem clear_sound {o : Oper} {c : Call} {K : Env → Store → Prop} {Q : Exit → Act → World → Prop} (ho : o.op = .call c) (hc : c.callee = .builtin .clear) (hs : Sim N σ0 w0 π e σ a w) (hd : inN N o.dst = true)
    (h : waK P H o e σ K) : o.wp P a w (WPost N σ0 w0 H o π e K) Q := by
  unfold waK at h
  simp only [ho, hc] at h
  split at h
  · rename_i t1 x ht hxy
    have ht := arr1 ht
    have hxy := arr1 hxy
    split at h
    · rename_i el hu1
      split at h
      · rename_i z sl n cp hz hx
        refine wa_value (s := Builtin.clear_ #[t1] o.type #[.slice sl n cp]) hs hd (by simp [execOp, ho, resolve, hc, hxy, ht, hs.evv hx, invoke, builtin]) ?_
        exact semA_clear hu1 hz h
      · exact h.elim
    · exact h.elim
  · exact h.elim

theorem waK_sound {o : Oper} {K : Env → Store → Prop} {Q : Exit → Act → World → Prop} (hs : Sim N σ0 w0 π e σ a w) (hd : inN N o.dst = true)
    (h : waK P H o e σ K) : o.wp P a w (WPost N σ0 w0 H o π e K) Q := by
  cases ho : o.op with
  | box t x => exact box_sound ho hs hd h
  | alloc t => exact alloc_sound ho hs hd h
  | buildSlice t len ps => exact buildSlice_sound ho hs hd h
  | makeSlice t l c => exact makeSlice_sound ho hs hd h
  | store t x y => exact store_sound ho hs hd h
  | call c =>
    cases hc : c.callee with
    | value f => exact callee_sound ho hc hs hd h
    | invoke r m => unfold waK at h; simp only [ho, hc] at h
    | builtin b =>
      cases b with
      | append => exact append_sound ho hc hs hd h
      | copy => exact copy_sound ho hc hs hd h
      | clear => exact clear_sound ho hc hs hd h
      | _ => unfold waK at h; simp only [ho, hc] at h
  | _ => unfold waK at h; simp only [ho] at h

end
end Go.Ev
