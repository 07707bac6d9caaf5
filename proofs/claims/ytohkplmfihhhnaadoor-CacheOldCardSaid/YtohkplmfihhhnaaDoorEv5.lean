/-
  The evaluator, part 5: the other operations that leave the world as it is.
  Conditions: none.
-/
import Derived.WideLaws
import Derived.Test.YtohkplmfihhhnaaDoorEv4
import Derived.LaidEqlPtr
namespace Go.Ev
open Go

section
variable {P : Program} {N : Nat} {σ0 σ : Store} {w0 w : World} {π : Nat → Nat} {e : Env} {a : Act}

theorem info_of_size {t : TypeId} (h : 0 < sizeT P t) : ∃ i, P.info? t = some i := by
  cases hi : P.info? t with
  | some i => exact ⟨i, rfl⟩
  | none => simp [sizeT, hi] at h

theorem run_sizeOf' {t : TypeId} (h : 0 < sizeT P t) (w : World) : (sizeOf t).run P w = .ok (sizeT P t) w := by
  obtain ⟨i, hi⟩ := info_of_size h
  exact run_sizeOf hi w

theorem blt_pos {n : Nat} (h : Nat.blt 0 n = true) : 0 < n := by
  rw [Nat.blt_eq] at h; exact h

theorem idx_spec {i : Int} {n : Nat} (h : (decide (0 ≤ i) && decide (i < (n : Int))) = true) : 0 ≤ i ∧ i < (n : Int) := by
  simpa using h

theorem run_indexSlice {t el : TypeId} {b off n c : Nat} {k : IntKind} {i : Int} (hu : P.underlying t = some (.slice el)) (hz : 0 < sizeT P el) (hi : 0 ≤ i ∧ i < (n : Int)) (w : World) :
    (Instr.indexAt t (.slice (some ⟨b, off, none⟩) n c) (.int k i)).run P w = .ok (.pointer (some ⟨b, off + i.toNat * sizeT P el, none⟩)) w := by
  simp [Instr.indexAt, asIntOf, run_underlying hu, run_sizeOf' hz, hi.1, hi.2, Addr.add_lit]

theorem run_indexArray {t el : TypeId} {b off n : Nat} {k : IntKind} {i : Int} (hu : P.underlying t = some (.array n el)) (hz : 0 < sizeT P el) (hi : 0 ≤ i ∧ i < (n : Int)) (w : World) :
    (Instr.indexAt t (.pointer (some ⟨b, off, none⟩)) (.int k i)).run P w = .ok (.pointer (some ⟨b, off + i.toNat * sizeT P el, none⟩)) w := by
  simp [Instr.indexAt, asIntOf, run_underlying hu, run_sizeOf' hz, hi.1, hi.2, Addr.add_lit, Instr.sureAddr]

theorem indexAddr_sound {o : Oper} {t : TypeId} {x i : Operand} {K : AV → List Fact → Prop} (ho : o.op = .indexAddr t x i) (hs : Sim N σ0 w0 π e σ a w) (h : nrK P o e σ K) : NR P o a π w e K := by
  unfold nrK at h
  simp only [ho] at h
  split at h
  · rename_i k i' hi
    have hi' := hs.evv hi
    split at h
    · rename_i el b n c hu hx
      obtain ⟨hz, h⟩ := Req_true h
      obtain ⟨hb, h⟩ := Req_true h
      obtain ⟨b, off, rfl, h2⟩ := PtrNN_some h
      exact .plain h2 rfl fun w' => by simp [execOp, ho, hi', hs.evv hx, run_indexSlice hu (blt_pos hz) (idx_spec hb)]
    · rename_i el j n hu hx
      obtain ⟨hz, h⟩ := Req_true h
      obtain ⟨hb, h⟩ := Req_true h
      exact .plain h rfl fun w' => by simp [execOp, ho, hi', hs.evs hx, run_indexSlice hu (blt_pos hz) (idx_spec hb)]
    · rename_i n el p hu hx
      obtain ⟨hz, h⟩ := Req_true h
      obtain ⟨hb, h⟩ := Req_true h
      obtain ⟨b, off, rfl, h2⟩ := PtrNN_some h
      exact .plain h2 rfl fun w' => by simp [execOp, ho, hi', hs.evv hx, run_indexArray hu (blt_pos hz) (idx_spec hb)]
    · rename_i n el j off hu hx
      obtain ⟨hz, h⟩ := Req_true h
      obtain ⟨hb, h⟩ := Req_true h
      exact .plain h rfl fun w' => by simp [execOp, ho, hi', hs.evp hx, run_indexArray hu (blt_pos hz) (idx_spec hb)]
    · exact h.elim
  · exact h.elim

theorem pick_sound {o : Oper} {c x y : Operand} {K : AV → List Fact → Prop} (ho : o.op = .pick c x y) (hs : Sim N σ0 w0 π e σ a w) (h : nrK P o e σ K) : NR P o a π w e K := by
  unfold nrK at h
  simp only [ho] at h
  split at h
  · rename_i t hc
    have hx := hs.ev x
    have hy := hs.ev y
    refine .plain (cv := if t then a.eval x else a.eval y) h ?_ fun w' => by simp [execOp, ho, hs.evv hc, asBool]
    generalize e.ev x = X at hx
    generalize e.ev y = Y at hy
    unfold pickAV
    split
    · rename_i p q
      rw [hx, hy]
      cases t <;> rfl
    · cases t
      · exact hy
      · exact hx
  · exact h.elim

theorem run_eql_ptr_nil {t el : TypeId} (p : Option Addr) (hu : P.underlying t = some (.pointer el)) (w : World) :
    (Op.equal t (.pointer p) (.pointer none)).run P w = .ok p.isNone w := by
  have h : ∀ d : Nat, (Op.equalIn (d + 1) t (.pointer p) (.pointer none)).run P w = .ok p.isNone w := fun d => by
    cases p <;> simp [Op.equalIn, run_underlying hu]
  exact h 9999

theorem run_eql_sl_nil {t el : TypeId} (p : Option Addr) (n c m d' : Nat) (hu : P.underlying t = some (.slice el)) (w : World) :
    (Op.equal t (.slice p n c) (.slice none m d')).run P w = .ok p.isNone w := by
  have h : ∀ d : Nat, (Op.equalIn (d + 1) t (.slice p n c) (.slice none m d')).run P w = .ok p.isNone w := fun d => by
    cases p <;> simp [Op.equalIn, run_underlying hu]
  exact h 9999

theorem run_eql_if_nil {t : TypeId} {ms : Array (String × TypeId)} (v : Value) (b : Bool) (hv : (v = .nilIface ∧ b = true) ∨ ((∃ u x, v = .iface u x) ∧ b = false)) (hu : P.underlying t = some (.interface ms)) (w : World) :
    (Op.equal t v .nilIface).run P w = .ok b w := by
  have h : ∀ d : Nat, (Op.equalIn (d + 1) t v .nilIface).run P w = .ok b w := fun d => by
    rcases hv with ⟨rfl, rfl⟩ | ⟨⟨u, x, rfl⟩, rfl⟩ <;> simp [Op.equalIn, run_underlying hu]
  exact h 9999

theorem IfaceNil_some {v : Value} {K : Bool → Prop} (h : IfaceNil v K) : ∃ b, ((v = .nilIface ∧ b = true) ∨ ((∃ u x, v = .iface u x) ∧ b = false)) ∧ K b := by
  unfold IfaceNil at h
  split at h
  · exact ⟨true, .inl ⟨rfl, rfl⟩, h⟩
  · exact ⟨false, .inr ⟨⟨_, _, rfl⟩, rfl⟩, h⟩
  · exact h.elim

theorem eqGuard_ptr (op : BinOp) (t : TypeId) (x y : Operand) (p : Option Addr) (v : Value) (w : World) : (eqGuard op t x y (.pointer p) v).run P w = .ok () w := by
  unfold eqGuard; cases op <;> simp
theorem eqGuard_sl (op : BinOp) (t : TypeId) (x y : Operand) (p : Option Addr) (n c : Nat) (v : Value) (w : World) : (eqGuard op t x y (.slice p n c) v).run P w = .ok () w := by
  unfold eqGuard; cases op <;> simp
theorem eqGuard_nil (op : BinOp) (t : TypeId) (x : Operand) (c v u : Value) (w : World) (hv : v = .nilIface ∨ ∃ u x, v = .iface u x) : (eqGuard op t x (.const c) v u).run P w = .ok () w := by
  unfold eqGuard
  rcases hv with rfl | ⟨u', x', rfl⟩ <;> cases op <;> cases u <;> simp

theorem run_binOp_eq {t : TypeId} {x y : Value} {b : Bool} (w : World) (h : (Op.equal t x y).run P w = .ok b w) (hx : (∃ p, x = .pointer p) ∨ (∃ p n c, x = .slice p n c) ∨ x = .nilIface ∨ ∃ u v, x = .iface u v) :
    (binOp .eql t x y).run P w = .ok (.bool b) w ∧ (binOp .neq t x y).run P w = .ok (.bool (!b)) w := by
  rcases hx with ⟨p, rfl⟩ | ⟨p, n, c, rfl⟩ | rfl | ⟨u, v, rfl⟩ <;> simp [binOp, h]

theorem nbeq_z {a : Nat} (h : Nat.beq a 0 = false) : a ≠ 0 := by
  rintro rfl; cases h

/-- Two pointers against each other. -/
theorem PtrEqK_sound {el : TypeId} {σ : Store} {w : World} {x y : Addr} {K : Bool → List Fact → Prop} {w0 : World} {σ0 : Store} {N : Nat} {e : Env} {a : Act} {π : Nat → Nat} (hs : Sim N σ0 w0 π e σ a w) (h : PtrEqK P el σ x y K) :
    ∃ fs, K (decide (x = y)) fs ∧ (∀ f ∈ fs, f.holds π w) ∧ (∀ k ty cs, Fact.q k ty cs ∉ fs) ∧ ∀ w', (∀ f ∈ fs, f.holds π w') → (∃ j, P.info? el = some j ∧ j.size ≠ 0) ∧
      ∃ ca ta cb tb, w'.heap[x.block]? = some (.cells ca ta (0, 0)) ∧ w'.heap[y.block]? = some (.cells cb tb (0, 0)) := by
  unfold PtrEqK at h
  split at h
  · exact h.elim
  · rename_i hz
    obtain ⟨ka, kb, ha, hb, fa, fb, hk⟩ := h
    have hz := nbeq_z hz
    refine ⟨_, hk, fun f hf => ?_, fun k ty cs hf => by simp at hf, fun w' hf => ⟨?_, ?_⟩⟩
    · simp only [List.mem_cons, List.not_mem_nil, or_false] at hf
      rcases hf with rfl | rfl
      · exact hs.holds _ _ ha
      · exact hs.holds _ _ hb
    · unfold sizeT at hz
      split at hz
      · rename_i i hi; exact ⟨i, hi, hz⟩
      · exact absurd rfl hz
    · have h1 := hf (.w x.block ka) (by simp)
      have h2 := hf (.w y.block kb) (by simp)
      simp only [Fact.holds, Blk.obj, fa, fb] at h1 h2
      exact ⟨_, _, _, _, h1, h2⟩

theorem run_ptrs {el tp : TypeId} (hp : P.underlying tp = some (.pointer el)) {x y : Addr} {w : World} (h : (∃ j, P.info? el = some j ∧ j.size ≠ 0) ∧
      ∃ ca ta cb tb, w.heap[x.block]? = some (.cells ca ta (0, 0)) ∧ w.heap[y.block]? = some (.cells cb tb (0, 0))) :
    (binOp .eql tp (.pointer (some x)) (.pointer (some y))).run P w = .ok (.bool (decide (x = y))) w := by
  obtain ⟨⟨j, hj, hz⟩, ca, ta, cb, tb, h1, h2⟩ := h
  by_cases hxy : x = y
  · subst hxy; rw [run_eql_ptr_same w x hp hj]; simp
  · rw [run_eql_ptr_other w hp hj hz hxy h1 h2]; simp [hxy]

theorem run_ifs {ti tp el : TypeId} {ms : Array (String × TypeId)} {i : TypeInfo} (hi : P.underlying ti = some (.interface ms)) (hp : P.underlying tp = some (.pointer el)) (hinfo : P.info? tp = some i) (hc : i.comparable = true) {x y : Addr} {w : World}
    (h : (∃ j, P.info? el = some j ∧ j.size ≠ 0) ∧ ∃ ca ta cb tb, w.heap[x.block]? = some (.cells ca ta (0, 0)) ∧ w.heap[y.block]? = some (.cells cb tb (0, 0))) :
    (binOp .eql ti (.iface tp (.pointer (some x))) (.iface tp (.pointer (some y)))).run P w = .ok (.bool (decide (x = y))) w := by
  obtain ⟨⟨j, hj, hz⟩, ca, ta, cb, tb, h1, h2⟩ := h
  by_cases hxy : x = y
  · subst hxy; rw [run_eql_iface_ptr_same w x hi hp hinfo hc hj]; simp
  · rw [run_eql_iface_ptr_other w hi hp hinfo hc hj hz hxy h1 h2]; simp [hxy]

theorem run_neq_of {t : TypeId} {x y : Value} {r : Bool} {w : World} (h : (binOp .eql t x y).run P w = .ok (.bool r) w) (hv : (∃ a b, x = .pointer a ∧ y = .pointer b) ∨ ∃ t u v w, x = .iface t u ∧ y = .iface v w) :
    (binOp .neq t x y).run P w = .ok (.bool (!r)) w := by
  have h' : (Op.equal t x y).run P w = .ok r w := by
    have : (binOp .eql t x y) = (do pure (.bool (← Op.equal t x y))) := by
      rcases hv with ⟨a, b, rfl, rfl⟩ | ⟨t, u, v, w, rfl, rfl⟩ <;> simp [binOp]
    rw [this] at h
    simp only [Sem.run_bind] at h
    cases hr : (Op.equal t x y).run P w with
    | ok b w' => rw [hr] at h; simp at h; obtain ⟨rfl, rfl⟩ := h; rfl
    | _ => rw [hr] at h; simp at h
  have : (binOp .neq t x y) = (do pure (.bool (!(← Op.equal t x y)))) := by
    rcases hv with ⟨a, b, rfl, rfl⟩ | ⟨t, u, v, w, rfl, rfl⟩ <;> simp [binOp]
  rw [this]
  simp [h']

theorem IfEqK_some {σ : Store} {v u : Value} {K : Bool → List Fact → Prop} (h : IfEqK P σ v u K) :
    ∃ t x y el i, v = .iface t (.pointer (some x)) ∧ u = .iface t (.pointer (some y)) ∧ P.underlying t = some (.pointer el) ∧ P.info? t = some i ∧ i.comparable = true ∧ PtrEqK P el σ x y K := by
  unfold IfEqK at h
  split at h
  · split at h
    · rename_i t x t' y _ _ _ el i hb hu hi
      have hb := Nat.eq_of_beq_eq_true hb
      subst hb
      split at h
      · rename_i hc; exact ⟨_, _, _, _, _, rfl, rfl, hu, hi, hc, h⟩
      · exact h.elim
    · exact h.elim
  · exact h.elim

theorem binOp_sound {o : Oper} {op : BinOp} {t t' : TypeId} {x y : Operand} {K : AV → List Fact → Prop} (ho : o.op = .binOp op t x y t') (hs : Sim N σ0 w0 π e σ a w) (h : nrK P o e σ K) : NR P o a π w e K := by
  unfold nrK at h
  simp only [ho] at h
  split at h
  · rename_i ms hu
    unfold binI at h
    split at h
    · unfold avV at h
      split at h
      · rename_i v hx
        obtain ⟨b, hb, h⟩ := IfaceNil_some h
        have hv : v = .nilIface ∨ ∃ u x, v = .iface u x := hb.imp (·.1) (·.1)
        have hy : e.ev (.const .nilIface) = .v .nilIface := rfl
        exact .plain h rfl fun w' => by
          have := (run_binOp_eq w' (run_eql_if_nil v b hb hu w') (.inr (.inr hv))).1
          simp [execOp, ho, hs.evv hx, hs.evv hy, eqGuard_nil _ _ _ _ _ _ _ hv, this]
      · exact h.elim
    · unfold avV at h
      split at h
      · rename_i v hx
        obtain ⟨b, hb, h⟩ := IfaceNil_some h
        have hv : v = .nilIface ∨ ∃ u x, v = .iface u x := hb.imp (·.1) (·.1)
        have hy : e.ev (.const .nilIface) = .v .nilIface := rfl
        exact .plain h rfl fun w' => by
          have := (run_binOp_eq w' (run_eql_if_nil v b hb hu w') (.inr (.inr hv))).2
          simp [execOp, ho, hs.evv hx, hs.evv hy, eqGuard_nil _ _ _ _ _ _ _ hv, this]
      · exact h.elim
    · unfold avV at h
      split at h
      · rename_i v hx
        split at h
        · rename_i u hy
          obtain ⟨tp, p, q, el, i, rfl, rfl, hup, hi, hc, h⟩ := IfEqK_some h
          obtain ⟨fs, hk, hf, hq, hr⟩ := PtrEqK_sound hs h
          exact ⟨_, fs, _, hk, rfl, hf, fun k ty cs hm => absurd hm (hq k ty cs), fun w' hw' => by
            have := run_ifs hu hup hi hc (hr w' hw')
            simp [execOp, ho, hs.evv hx, hs.evv hy, eqGuard, this]⟩
        · exact h.elim
      · exact h.elim
    · unfold avV at h
      split at h
      · rename_i v hx
        split at h
        · rename_i u hy
          obtain ⟨tp, p, q, el, i, rfl, rfl, hup, hi, hc, h⟩ := IfEqK_some h
          obtain ⟨fs, hk, hf, hq, hr⟩ := PtrEqK_sound hs h
          exact ⟨_, fs, _, hk, rfl, hf, fun k ty cs hm => absurd hm (hq k ty cs), fun w' hw' => by
            have := run_neq_of (run_ifs hu hup hi hc (hr w' hw')) (.inr ⟨_, _, _, _, rfl, rfl⟩)
            simp [execOp, ho, hs.evv hx, hs.evv hy, eqGuard, this]⟩
        · exact h.elim
      · exact h.elim
    · exact generic_sound hs (by simp [ho]) h
  unfold binT at h
  split at h
  · rename_i k u k' v hx hy
    split at h
    · rename_i hk
      have hk := of_decide_eq_true hk
      subst hk
      obtain ⟨h0, h⟩ := Req_true h
      have h0 : ¬ v = 0 := by simpa using h0
      exact .plain h rfl fun w' => by simp [execOp, ho, hs.evv hx, hs.evv hy, binOp, Op.intDiv, h0, quoI, eqGuard]
    · exact h.elim
  · rename_i k u k' v hx hy
    split at h
    · rename_i hk
      have hk := of_decide_eq_true hk
      subst hk
      obtain ⟨h0, h⟩ := Req_true h
      have h0 : ¬ v = 0 := by simpa using h0
      exact .plain h rfl fun w' => by simp [execOp, ho, hs.evv hx, hs.evv hy, binOp, Op.intDiv, h0, eqGuard]
    · exact h.elim
  · rename_i k u k' v hx hy
    obtain ⟨h0, h⟩ := Req_true h
    have h0 : ¬ v < 0 := by have := of_decide_eq_true h0; omega
    exact .plain h rfl fun w' => by simp [execOp, ho, hs.evv hx, hs.evv hy, binOp, Op.shift, h0, shlI, eqGuard]
  · rename_i k u k' v hx hy
    obtain ⟨h0, h⟩ := Req_true h
    have h0 : ¬ v < 0 := by have := of_decide_eq_true h0; omega
    exact .plain h rfl fun w' => by simp [execOp, ho, hs.evv hx, hs.evv hy, binOp, Op.shift, h0, shrI, eqGuard]
  · rename_i p q hx hy
    split at h
    · rename_i el hu
      split at h
      · exact .plain h rfl fun w' => by
          have := (run_binOp_eq w' (run_eql_ptr_nil p hu w') (.inl ⟨p, rfl⟩)).1
          simp [execOp, ho, hs.evv hx, hs.evv hy, eqGuard_ptr, this]
      · split at h
        · obtain ⟨fs, hk, hf, hq, hr⟩ := PtrEqK_sound hs h
          exact ⟨_, fs, _, hk, rfl, hf, fun k ty cs hm => absurd hm (hq k ty cs), fun w' hw' => by
            have := run_ptrs hu (hr w' hw')
            simp [execOp, ho, hs.evv hx, hs.evv hy, eqGuard, this]⟩
        · exact h.elim
    · exact h.elim
  · rename_i p q hx hy
    split at h
    · rename_i el hu
      split at h
      · exact .plain h rfl fun w' => by
          have := (run_binOp_eq w' (run_eql_ptr_nil p hu w') (.inl ⟨p, rfl⟩)).2
          simp [execOp, ho, hs.evv hx, hs.evv hy, eqGuard_ptr, this]
      · split at h
        · obtain ⟨fs, hk, hf, hq, hr⟩ := PtrEqK_sound hs h
          exact ⟨_, fs, _, hk, rfl, hf, fun k ty cs hm => absurd hm (hq k ty cs), fun w' hw' => by
            have := run_neq_of (run_ptrs hu (hr w' hw')) (.inl ⟨_, _, rfl, rfl⟩)
            simp [execOp, ho, hs.evv hx, hs.evv hy, eqGuard, this]⟩
        · exact h.elim
    · exact h.elim
  · rename_i p n c m d hx hy
    split at h
    · rename_i el hu
      exact .plain h rfl fun w' => by
        have := (run_binOp_eq w' (run_eql_sl_nil p n c m d hu w') (.inr (.inl ⟨p, n, c, rfl⟩))).1
        simp [execOp, ho, hs.evv hx, hs.evv hy, eqGuard_sl, this]
    · exact h.elim
  · rename_i p n c m d hx hy
    split at h
    · rename_i el hu
      exact .plain h rfl fun w' => by
        have := (run_binOp_eq w' (run_eql_sl_nil p n c m d hu w') (.inr (.inl ⟨p, n, c, rfl⟩))).2
        simp [execOp, ho, hs.evv hx, hs.evv hy, eqGuard_sl, this]
    · exact h.elim
  · rename_i v hx hy
    split at h
    · rename_i ms c hu
      obtain ⟨b, hb, h⟩ := IfaceNil_some h
      have hv : v = .nilIface ∨ ∃ u x, v = .iface u x := hb.imp (·.1) (·.1)
      exact .plain h rfl fun w' => by
        have := (run_binOp_eq w' (run_eql_if_nil v b hb hu w') (.inr (.inr hv))).1
        simp [execOp, ho, hs.evv hx, hs.evv hy, eqGuard_nil _ _ _ _ _ _ _ hv, this]
    · exact h.elim
  · rename_i v hx hy
    split at h
    · rename_i ms c hu
      obtain ⟨b, hb, h⟩ := IfaceNil_some h
      have hv : v = .nilIface ∨ ∃ u x, v = .iface u x := hb.imp (·.1) (·.1)
      exact .plain h rfl fun w' => by
        have := (run_binOp_eq w' (run_eql_if_nil v b hb hu w') (.inr (.inr hv))).2
        simp [execOp, ho, hs.evv hx, hs.evv hy, eqGuard_nil _ _ _ _ _ _ _ hv, this]
    · exact h.elim
  · exact generic_sound hs (by simp [ho]) h

end
end Go.Ev
