/-
  The evaluator, part 6: slice expressions, len, cap, min, max; all operations that leave the world as it is, in one.
  Conditions: none.
-/
import Derived.Test.YtohkplmfihhhnaaDoorEv5
namespace Go.Ev
open Go

section
variable {P : Program} {N : Nat} {σ0 σ : Store} {w0 w : World} {π : Nat → Nat} {e : Env} {a : Act}

/-- A bound as the model has it. -/
def bndOf (i : Option Int) (v : Option Value) : Prop :=
  match i with
  | none => v = none
  | some n => ∃ k, v = some (.int k n)

theorem ointK_some {x : Option Operand} {K : Option Int → Prop} (hs : Sim N σ0 w0 π e σ a w) (h : ointK e x K) : ∃ i, bndOf i (x.map a.eval) ∧ K i := by
  unfold ointK at h
  split at h
  · exact ⟨none, rfl, h⟩
  · split at h
    · rename_i k n hx
      exact ⟨some n, ⟨k, by simp [hs.evv hx]⟩, h⟩
    · exact h.elim

theorem okIdx_spec {i : Int} {n : Nat} (h : okIdx i n = true) : 0 ≤ i ∧ i ≤ (n : Int) := by
  simpa [okIdx] using h

theorem run_sliceBound {k : IntKind} {i : Int} {y : Nat} {c : BoundsCode} (h : okIdx i y = true) (w : World) : (Instr.sliceBound (.int k i) y c).run P w = .ok i.toNat w := by
  have := okIdx_spec h
  simp [Instr.sliceBound, asIntOf, this.1, this.2]

theorem SliceK_sound {s : Bool} {n c : Nat} {lo hi mx : Option Int} {vlo vhi vmx : Option Value} {K : Nat → Nat → Nat → Prop} (hlo : bndOf lo vlo) (hhi : bndOf hi vhi) (hmx : bndOf mx vmx)
    (h : SliceK n c lo hi mx K) : ∃ l u m, K l u m ∧ ∀ w, (Instr.sliceBounds s n c vlo vhi vmx).run P w = .ok (l, u, m) w := by
  unfold SliceK at h
  split at h
  · cases hlo; cases hhi; cases hmx
    exact ⟨_, _, _, h, fun w => by simp [Instr.sliceBounds]⟩
  · obtain ⟨k, rfl⟩ := hlo; cases hhi; cases hmx
    obtain ⟨h1, h⟩ := Req_true h
    exact ⟨_, _, _, h, fun w => by simp [Instr.sliceBounds, run_sliceBound h1]⟩
  · obtain ⟨k, rfl⟩ := hhi; cases hlo; cases hmx
    obtain ⟨h1, h⟩ := Req_true h
    exact ⟨_, _, _, h, fun w => by simp [Instr.sliceBounds, run_sliceBound h1]⟩
  · obtain ⟨k, rfl⟩ := hhi; obtain ⟨k', rfl⟩ := hlo; cases hmx
    obtain ⟨h1, h⟩ := Req_true h
    obtain ⟨h2, h⟩ := Req_true h
    exact ⟨_, _, _, h, fun w => by simp [Instr.sliceBounds, run_sliceBound h1, run_sliceBound h2]⟩
  · obtain ⟨k, rfl⟩ := hhi; obtain ⟨k', rfl⟩ := hmx; cases hlo
    obtain ⟨h1, h⟩ := Req_true h
    obtain ⟨h2, h⟩ := Req_true h
    exact ⟨_, _, _, h, fun w => by simp [Instr.sliceBounds, run_sliceBound h1, run_sliceBound h2]⟩
  · obtain ⟨k, rfl⟩ := hhi; obtain ⟨k', rfl⟩ := hmx; obtain ⟨k'', rfl⟩ := hlo
    obtain ⟨h1, h⟩ := Req_true h
    obtain ⟨h2, h⟩ := Req_true h
    obtain ⟨h3, h⟩ := Req_true h
    exact ⟨_, _, _, h, fun w => by simp [Instr.sliceBounds, run_sliceBound h1, run_sliceBound h2, run_sliceBound h3]⟩
  · exact h.elim

theorem slice_sound {o : Oper} {t : TypeId} {x : Operand} {lo hi mx : Option Operand} {K : AV → List Fact → Prop} (ho : o.op = .slice t x lo hi mx) (hs : Sim N σ0 w0 π e σ a w) (h : nrK P o e σ K) : NR P o a π w e K := by
  unfold nrK at h
  simp only [ho] at h
  obtain ⟨ilo, hlo, h⟩ := ointK_some hs h
  obtain ⟨ihi, hhi, h⟩ := ointK_some hs h
  obtain ⟨imx, hmx, h⟩ := ointK_some hs h
  split at h
  · rename_i el b n c hu hx
    obtain ⟨hz, h⟩ := Req_true h
    obtain ⟨l, u, m, h, hr⟩ := SliceK_sound (P := P) (s := true) hlo hhi hmx h
    exact .plain h rfl fun w' => by simp [execOp, ho, hs.evv hx, Instr.sliceAt, Instr.slice, run_underlying hu, hr, run_sizeOf' (blt_pos hz), slAddr]
  · rename_i n el p hu hx
    obtain ⟨hz, h⟩ := Req_true h
    obtain ⟨b, off, rfl, h2⟩ := PtrNN_some h
    obtain ⟨l, u, m, h3, hr⟩ := SliceK_sound (P := P) (s := false) hlo hhi hmx h2
    refine .plain h3 rfl fun w' => ?_
    simp [execOp, ho, hs.evv hx, Instr.sliceAt, Instr.sureAddr, run_underlying hu, hr, run_sizeOf' (blt_pos hz), slAddr]
    split <;> simp
  · exact h.elim

theorem call_sound {o : Oper} {c : Call} {K : AV → List Fact → Prop} (ho : o.op = .call c) (hs : Sim N σ0 w0 π e σ a w) (h : nrK P o e σ K) : NR P o a π w e K := by
  unfold nrK at h
  simp only [ho] at h
  split at h
  · rename_i hc
    split at h
    · rename_i x t hx ht
      split at h
      · rename_i k n he
        split at h
        · rename_i el hu
          refine .plain h rfl fun w' => ?_
          have hargs : c.args = #[x] := by rw [← Array.toArray_toList (xs := c.args), hx]
          have hty : c.argTypes = #[t] := by rw [← Array.toArray_toList (xs := c.argTypes), ht]
          simp [execOp, ho, resolve, hc, hargs, hty, hs.evs he, invoke, builtin, Builtin.len_, run_underlying hu, goInt]
        · exact h.elim
      · exact generic_sound hs (by simp [ho]) h
    · exact h.elim
  all_goals first | exact generic_sound hs (by simp [ho]) h | exact h.elim

theorem index_sound {o : Oper} {t : TypeId} {x i : Operand} {K : AV → List Fact → Prop} (ho : o.op = .index t x i) (hs : Sim N σ0 w0 π e σ a w) (h : nrK P o e σ K) : NR P o a π w e K := by
  unfold nrK at h
  simp only [ho] at h
  split at h
  · rename_i hu
    split at h
    · rename_i s k n hx hi
      obtain ⟨hz, h⟩ := Req_true h
      simp only [Bool.and_eq_true, decide_eq_true_eq] at hz
      refine .plain h rfl fun w' => ?_
      have hlt : n.toNat < s.size := by omega
      have hb : byteAt s n.toNat = (s[n.toNat].toNat : Int) := by
        unfold byteAt
        rw [getElem?_pos s n.toNat hlt]
      simp [execOp, ho, hs.evv hx, hs.evv hi, Instr.index, asIntOf, run_underlying hu, hz.1, hlt, hb]
    · exact h.elim
  · exact generic_sound hs (by simp [ho]) h

theorem nrK_sound {o : Oper} {K : AV → List Fact → Prop} (hs : Sim N σ0 w0 π e σ a w) (h : nrK P o e σ K) : NR P o a π w e K := by
  cases ho : o.op with
  | move x =>
    unfold nrK at h; simp only [ho] at h
    exact .plain h (hs.ev x) fun w' => by simp [execOp, ho]
  | assign x =>
    unfold nrK at h; simp only [ho] at h
    exact .plain h (hs.ev x) fun w' => by simp [execOp, ho]
  | load t x => exact load_sound ho hs h
  | nilCheck x => exact nilCheck_sound ho hs h
  | fieldAddr s x f => exact fieldAddr_sound ho hs h
  | indexAddr t x i => exact indexAddr_sound ho hs h
  | pick c x y => exact pick_sound ho hs h
  | binOp op t x y t' => exact binOp_sound ho hs h
  | slice t x lo hi mx => exact slice_sound ho hs h
  | call c => exact call_sound ho hs h
  | index t x i => exact index_sound ho hs h
  | unOp | convert | field | extract | build | makeInterface | makeFunc | typeAssert =>
    unfold nrK at h; simp only [ho] at h
    exact generic_sound hs (by simp [ho]) h
  | _ => unfold nrK at h; simp only [ho] at h

end
end Go.Ev
