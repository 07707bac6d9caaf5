/-
  The evaluator, part 4: operations that leave the world as it is are read rightly.
  Conditions: none.
-/
import Derived.Laws.Entries
import Derived.Laws.Cells
import Derived.Test.YtohkplmfihhhnaaDoorEv3
namespace Go.Ev
open Go

def VRel (π : Nat → Nat) : AV → Value → Prop
  | .u, _ => True
  | .p k o, c => c = .pointer (some ⟨π k, o, none⟩)
  | .s k n, c => c = .slice (some ⟨π k, 0, none⟩) n n
  | .v x, c => c = x

structure Sim (N : Nat) (σ0 : Store) (w0 : World) (π : Nat → Nat) (e : Env) (σ : Store) (a : Act) (w : World) : Prop where
  holds : Holds σ w
  ext : Ext σ0 σ w0 w
  size : a.tmps.size = N
  defers : a.defers = []
  slots : ∀ i, VRel π (e.get i) (a.tmps.getD i undef)
  boxes : ∀ k ty cs, e.box k = some (ty, cs) → w.heap[π k]? = some (.cells cs.toArray ty (0, 0)) ∧ σ (π k) = none ∧ w0.heap.size ≤ π k
  inj : ∀ k k' x x', e.box k = some x → e.box k' = some x' → π k = π k' → k = k'

def Fact.holds (π : Nat → Nat) (w : World) : Fact → Prop
  | .m b off vs => ∀ i v, vs[i]? = some v → w.cell? ⟨b, off + i, none⟩ = some v
  | .q k ty cs => w.heap[π k]? = some (.cells cs.toArray ty (0, 0))
  | .w b k => w.heap[b]? = some k.obj

section
variable {P : Program} {N : Nat} {σ0 σ : Store} {w0 w : World} {π : Nat → Nat} {e : Env} {a : Act}

theorem Sim.ev (h : Sim N σ0 w0 π e σ a w) (x : Operand) : VRel π (e.ev x) (a.eval x) := by
  cases x with
  | tmp t => exact h.slots t
  | const v => rfl
  | global g => rfl
  | func f => rfl

theorem Sim.evv (h : Sim N σ0 w0 π e σ a w) {x : Operand} {v : Value} (hx : e.ev x = .v v) : a.eval x = v := by
  have := h.ev x; rw [hx] at this; exact this
theorem Sim.evp (h : Sim N σ0 w0 π e σ a w) {x : Operand} {k o : Nat} (hx : e.ev x = .p k o) : a.eval x = .pointer (some ⟨π k, o, none⟩) := by
  have := h.ev x; rw [hx] at this; exact this
theorem Sim.evs (h : Sim N σ0 w0 π e σ a w) {x : Operand} {k n : Nat} (hx : e.ev x = .s k n) : a.eval x = .slice (some ⟨π k, 0, none⟩) n n := by
  have := h.ev x; rw [hx] at this; exact this

theorem pureRun_run {s : Sem Next} {v : Value} (h : pureRun P s = some v) (w : World) : s.run P w = .ok (.value v) w := by
  induction s with
  | pure n => cases n <;> simp [pureRun] at h; subst h; rfl
  | program k ih => exact ih P h
  | _ => simp [pureRun] at h

theorem allV_spec : ∀ {xs : List Operand}, allV e xs = true → ∀ x ∈ xs, e.ev x = .v (e.evV x)
  | [], _, x, hx => by cases hx
  | y :: r, h, x, hx => by
    simp only [allV] at h
    cases hy : (e.ev y).isV with
    | false => simp [hy] at h
    | true =>
      simp only [hy] at h
      rcases List.mem_cons.1 hx with rfl | hx
      · unfold Env.evV
        cases he : e.ev x <;> simp [he, AV.isV] at hy
        rfl
      · exact allV_spec h x hx

theorem Sim.evV (h : Sim N σ0 w0 π e σ a w) {xs : List Operand} (hx : allV e xs = true) : ∀ x ∈ xs, a.eval x = e.evV x :=
  fun x hm => h.evv (allV_spec hx x hm)

/-- What such an operation comes to. -/
def NR (P : Program) (o : Oper) (a : Act) (π : Nat → Nat) (w : World) (e : Env) (K : AV → List Fact → Prop) : Prop :=
  ∃ av fs cv, K av fs ∧ VRel π av cv ∧ (∀ f ∈ fs, f.holds π w) ∧ (∀ k ty cs, Fact.q k ty cs ∈ fs → e.box k = some (ty, cs)) ∧ ∀ w', (∀ f ∈ fs, f.holds π w') → (execOp a.eval o).run P w' = .ok (.value cv) w'

theorem NR.plain {o : Oper} {K : AV → List Fact → Prop} {av : AV} {cv : Value} (hk : K av []) (hv : VRel π av cv) (h : ∀ w', (execOp a.eval o).run P w' = .ok (.value cv) w') : NR P o a π w e K :=
  ⟨av, [], cv, hk, hv, (fun _ hf => by cases hf), (fun _ _ _ hf => by cases hf), fun w' _ => h w'⟩

theorem generic_sound {o : Oper} {K : AV → List Fact → Prop} (hs : Sim N σ0 w0 π e σ a w) (hsel : ∀ cs b, o.op ≠ .select cs b) (h : generic P o e K) : NR P o a π w e K := by
  unfold generic at h
  split at h
  · rename_i hall
    split at h
    · rename_i v hv
      refine .plain h rfl fun w' => ?_
      rw [execOp_congr (ρ := a.eval) (ρ' := e.evV) o hsel fun x hx => hs.evV hall x (by simpa using hx)]
      exact pureRun_run hv w'
    · exact h.elim
  · exact h.elim

theorem exCell_some {z : Value} {K : Value → Prop} (h : exCell z K) : ∃ v, K v := by
  unfold exCell at h
  split at h
  · obtain ⟨n, h⟩ := h; exact ⟨_, h⟩
  · obtain ⟨n, h⟩ := h; exact ⟨_, h⟩
  · obtain ⟨n, h⟩ := h; exact ⟨_, h⟩
  · obtain ⟨n, h⟩ := h; exact ⟨_, h⟩
  · obtain ⟨n, m, c, h⟩ := h; exact ⟨_, h⟩
  · exact h

theorem exCells_some : ∀ {zs : List Value} {K : List Value → Prop}, exCells zs K → ∃ l, K l
  | [], _, h => ⟨_, h⟩
  | _ :: _, _, h => by
    obtain ⟨v, h⟩ := exCell_some h
    obtain ⟨l, h⟩ := exCells_some h
    exact ⟨_, h⟩

theorem exAgg_some {zs : List Value} {K : List Value → Prop} (h : exAgg zs K) : ∃ l, K l := by
  unfold exAgg at h
  split at h
  · exact exCells_some h
  · exact h

theorem exT_some {t : TypeId} {K : Value → Prop} (h : exT P t K) : ∃ v, K v := by
  unfold exT at h
  split at h
  · obtain ⟨l, h⟩ := exAgg_some h; exact ⟨_, h⟩
  · exact exCell_some h
  · exact h.elim

theorem exTs_some : ∀ {ts : List TypeId} {K : List Value → Prop}, exTs P ts K → ∃ l, K l
  | [], _, h => ⟨_, h⟩
  | _ :: _, _, h => by
    obtain ⟨v, h⟩ := exT_some h
    obtain ⟨l, h⟩ := exTs_some h
    exact ⟨_, h⟩

theorem resT_some {f : FuncId} {v : Value} {K : Value → Prop} (h : resT P f v K) : K v := by
  unfold resT at h
  split at h
  · split at h
    · obtain ⟨x, rfl, h2⟩ := exT_some h; exact h2
    · obtain ⟨l, rfl, h2⟩ := exTs_some h; exact h2
  · exact h.elim

theorem PtrNN_some {p : Option Addr} {K : Nat → Nat → Prop} (h : PtrNN p K) : ∃ b o, p = some ⟨b, o, none⟩ ∧ K b o := by
  unfold PtrNN at h
  split at h
  · exact ⟨_, _, rfl, h⟩
  · exact h.elim

theorem Req_true {c : Bool} {K : Prop} (h : Req c K) : c = true ∧ K := by
  unfold Req at h
  split at h
  · exact ⟨rfl, h⟩
  · exact h.elim

theorem cellAt_world {b off : Nat} {v : Value} (h : Holds σ w) (hc : cellAt σ b off = some v) : w.cell? ⟨b, off, none⟩ = some v := by
  unfold cellAt at hc
  split at hc
  · rename_i k hk
    have := h b k hk
    simp [World.cell?, this, Blk.obj, hc]
  · cases hc

theorem cellsAt_get {b off n : Nat} {l : List Value} (hc : cellsAt σ b off n = some l) : ∃ k, σ b = some k ∧ off + n ≤ k.cells.length ∧ l = (k.cells.drop off).take n := by
  unfold cellsAt at hc
  split at hc
  · rename_i k hk
    split at hc
    · rename_i hl
      injection hc with hc
      exact ⟨k, hk, hl, hc.symm⟩
    · cases hc
  · cases hc

theorem cellsAt_length {b off n : Nat} {l : List Value} (hc : cellsAt σ b off n = some l) : l.length = n := by
  obtain ⟨k, _, hl, rfl⟩ := cellsAt_get hc
  simp; omega

theorem cellsAt_world {b off n : Nat} {l : List Value} (h : Holds σ w) (hc : cellsAt σ b off n = some l) : ∀ i v, l[i]? = some v → w.cell? ⟨b, off + i, none⟩ = some v := by
  obtain ⟨k, hk, hl, rfl⟩ := cellsAt_get hc
  intro i v hv
  have := h b k hk
  rw [List.getElem?_take] at hv
  split at hv
  · rw [List.getElem?_drop] at hv
    simp [World.cell?, this, Blk.obj, hv]
  · cases hv

theorem Fact.m_load {b off : Nat} {l : List Value} (h : Fact.holds π w (.m b off l)) : ∀ j v, l[j]? = some v → w.cell? (Addr.add ⟨b, off, none⟩ j) = some v := by
  intro j v hv
  rw [Addr.add_lit]
  exact h j v hv

theorem isAgg_true {t : TypeId} (h : isAggT P t = some true) (w : World) : (isAgg t).run P w = .ok true w := by
  unfold isAggT at h
  split at h
  · rename_i fs hu; simp [isAgg, run_underlying hu]
  · rename_i n el hu; simp [isAgg, run_underlying hu]
  · cases h
  · cases h

theorem isAgg_false {t : TypeId} (h : isAggT P t = some false) (w : World) : (isAgg t).run P w = .ok false w := by
  unfold isAggT at h
  split at h
  · cases h
  · cases h
  · rename_i d h1 h2 hu
    cases d <;> simp [isAgg, run_underlying hu] <;> first | exact absurd rfl (h1 _) | exact absurd rfl (h2 _ _)
  · cases h

theorem info_of_underlying {t : TypeId} {d : TypeDesc} (h : P.underlying t = some d) : ∃ i, P.info? t = some i := by
  cases hi : P.info? t with
  | some i => exact ⟨i, rfl⟩
  | none => simp [Program.underlying, hi] at h

theorem info_of_agg {t : TypeId} {b : Bool} (h : isAggT P t = some b) : ∃ i, P.info? t = some i := by
  unfold isAggT at h
  split at h
  all_goals first | exact info_of_underlying (by assumption) | cases h

theorem run_sizeOf {t : TypeId} {i : TypeInfo} (hi : P.info? t = some i) (w : World) : (sizeOf t).run P w = .ok (sizeT P t) w := by
  simp [sizeOf, typeInfo, hi, sizeT]

/-- A load of an aggregate. -/
theorem run_loadAgg {t : TypeId} {b off : Nat} {l : List Value} {w : World} (ht : isAggT P t = some true) (hl : l.length = sizeT P t)
    (hc : ∀ j v, l[j]? = some v → w.cell? (Addr.add ⟨b, off, none⟩ j) = some v) :
    (loadVar t ⟨b, off, none⟩).run P w = .ok (.agg l.toArray) w := by
  obtain ⟨i, hi⟩ := info_of_agg ht
  have := run_loadCells_list (P := P) w ⟨b, off, none⟩ l hc
  simp [loadVar, isAgg_true ht, run_sizeOf hi, ← hl, this]

theorem run_loadOne {t : TypeId} {b off : Nat} {v : Value} {w : World} (ht : isAggT P t = some false) (hc : w.cell? ⟨b, off, none⟩ = some v) :
    (loadVar t ⟨b, off, none⟩).run P w = .ok v w := by
  simp [loadVar, isAgg_false ht, load, Sem.run, hc]

theorem loadT_sound {t : TypeId} {b off : Nat} {K : Value → List Fact → Prop} (hw : Holds σ w) (h : loadT P t b off σ K) :
    ∃ v fs, K v fs ∧ (∀ f ∈ fs, f.holds π w) ∧ (∀ k ty cs, Fact.q k ty cs ∉ fs) ∧ ∀ w', (∀ f ∈ fs, f.holds π w') → (loadVar t ⟨b, off, none⟩).run P w' = .ok v w' := by
  unfold loadT at h
  split at h
  · rename_i ht
    split at h
    · obtain ⟨l, hc, h⟩ := exAgg_some h
      refine ⟨_, _, h, fun f hf => ?_, fun k ty cs hf => by simp at hf, fun w' hf => run_loadAgg ht (cellsAt_length hc) (Fact.m_load (π := π) (hf _ (List.mem_singleton.2 rfl)))⟩
      rw [List.mem_singleton.1 hf]
      exact cellsAt_world hw hc
    · exact h.elim
  · rename_i ht
    split at h
    · obtain ⟨v, hc, h⟩ := exCell_some h
      refine ⟨_, _, h, fun f hf => ?_, fun k ty cs hf => by simp at hf, fun w' hf => run_loadOne ht ?_⟩
      · rw [List.mem_singleton.1 hf]
        intro i u hu
        match i, hu with
        | 0, hu => simp at hu; subst hu; exact cellAt_world hw hc
        | i + 1, hu => simp at hu
      · exact hf _ (List.mem_singleton.2 rfl) 0 v rfl
    · exact h.elim
  · exact h.elim

/-- A cell of a private box. -/
theorem box_cell {b off : Nat} {cs : List Value} {ty : TypeId} {w : World} (hb : w.heap[b]? = some (.cells cs.toArray ty (0, 0))) {v : Value} (hv : cs[off]? = some v) : w.cell? ⟨b, off, none⟩ = some v := by
  simp [World.cell?, hb, hv]

theorem load_sound {o : Oper} {t : TypeId} {x : Operand} {K : AV → List Fact → Prop} (ho : o.op = .load t x) (hs : Sim N σ0 w0 π e σ a w) (h : nrK P o e σ K) : NR P o a π w e K := by
  unfold nrK at h
  simp only [ho] at h
  have hrun : ∀ (p : Addr) (w' : World) (v : Value), a.eval x = .pointer (some p) → (loadVar t p).run P w' = .ok v w' → (execOp a.eval o).run P w' = .ok (.value v) w' := fun p w' v hx hl => by
    simp [execOp, ho, hx, Instr.loadAt, Instr.sureAddr, hl]
  split at h
  · rename_i k off hx
    have hx' := hs.evp hx
    split at h
    · rename_i ty cs hb
      have hbox := (hs.boxes _ _ _ hb).1
      split at h
      · rename_i ht
        split at h
        · rename_i hle
          have hle := Nat.le_of_ble_eq_true hle
          refine ⟨_, _, _, h, rfl, fun f hf => ?_, fun k' ty' cs' hf => by simp at hf; obtain ⟨rfl, rfl, rfl⟩ := hf; exact hb, fun w' hf => hrun _ _ _ hx' (run_loadAgg ht (by simp; omega) fun j v hv => ?_)⟩
          · rw [List.mem_singleton.1 hf]; exact hbox
          · have hb' : w'.heap[π k]? = some (.cells cs.toArray ty (0, 0)) := hf _ (List.mem_singleton.2 rfl)
            rw [Addr.add_lit]
            rw [List.getElem?_take] at hv
            split at hv
            · rw [List.getElem?_drop] at hv; exact box_cell hb' hv
            · cases hv
        · exact h.elim
      · rename_i ht
        split at h
        · rename_i v hv
          refine ⟨_, _, _, h, rfl, fun f hf => ?_, fun k' ty' cs' hf => by simp at hf; obtain ⟨rfl, rfl, rfl⟩ := hf; exact hb, fun w' hf => hrun _ _ _ hx' (run_loadOne ht ?_)⟩
          · rw [List.mem_singleton.1 hf]; exact hbox
          · have hb' : w'.heap[π k]? = some (.cells cs.toArray ty (0, 0)) := hf _ (List.mem_singleton.2 rfl)
            exact box_cell hb' hv
        · exact h.elim
      · exact h.elim
    · exact h.elim
  · rename_i p hx
    obtain ⟨b, off, rfl, h2⟩ := PtrNN_some h
    obtain ⟨v, fs, hk, hf, hq, hr⟩ := loadT_sound (π := π) hs.holds h2
    exact ⟨.v v, fs, v, hk, rfl, hf, fun k ty cs hq' => absurd hq' (hq k ty cs), fun w' hf' => hrun _ _ _ (hs.evv hx) (hr w' hf')⟩
  · exact h.elim

theorem nilCheck_sound {o : Oper} {x : Operand} {K : AV → List Fact → Prop} (ho : o.op = .nilCheck x) (hs : Sim N σ0 w0 π e σ a w) (h : nrK P o e σ K) : NR P o a π w e K := by
  unfold nrK at h
  simp only [ho] at h
  split at h
  · rename_i k off hx
    exact .plain h rfl fun w' => by simp [execOp, ho, hs.evp hx]
  · rename_i p hx
    obtain ⟨b, off, rfl, h2⟩ := PtrNN_some h
    exact .plain h2 rfl fun w' => by simp [execOp, ho, hs.evv hx]
  · exact generic_sound hs (by simp [ho]) h

theorem fieldOff_spec {s : TypeId} {f d : Nat} (h : fieldOff P s f = some d) (b off : Nat) (w : World) :
    (Instr.fieldAt s (.pointer (some ⟨b, off, none⟩)) f).run P w = .ok (.pointer (some ⟨b, off + d, none⟩)) w := by
  unfold fieldOff at h
  split at h
  · rename_i fs hu
    split at h
    · rename_i x hx
      split at h
      · cases h
      · rename_i hz
        injection h with h
        subst h
        have hi : ∃ i, P.info? x.type = some i := by
          cases hi : P.info? x.type with
          | some i => exact ⟨i, rfl⟩
          | none => simp [sizeT, hi] at hz
        obtain ⟨i, hi⟩ := hi
        have hz' : sizeT P x.type ≠ 0 := hz
        simp [Instr.fieldAt, run_underlying hu, hx, Instr.sureAddr, fieldPlace, run_sizeOf hi, hz', Addr.add_lit]
    · cases h
  · cases h

theorem fieldAddr_sound {o : Oper} {s : TypeId} {x : Operand} {f : Nat} {K : AV → List Fact → Prop} (ho : o.op = .fieldAddr s x f) (hs : Sim N σ0 w0 π e σ a w) (h : nrK P o e σ K) : NR P o a π w e K := by
  unfold nrK at h
  simp only [ho] at h
  split at h
  · rename_i k off hx
    split at h
    · rename_i d hd
      exact .plain h rfl fun w' => by simp [execOp, ho, hs.evp hx, fieldOff_spec hd]
    · exact h.elim
  · rename_i p hx
    split at h
    · rename_i d hd
      obtain ⟨b, off, rfl, h2⟩ := PtrNN_some h
      exact .plain h2 rfl fun w' => by simp [execOp, ho, hs.evv hx, fieldOff_spec hd]
    · exact h.elim
  · exact h.elim

theorem sizeOf_el {t el : TypeId} {d : TypeDesc} (_hu : P.underlying t = some d) (w : World) (h : (sizeOf el).run P w = .ok (sizeT P el) w) : (sizeOf el).run P w = .ok (sizeT P el) w := h

end
end Go.Ev
