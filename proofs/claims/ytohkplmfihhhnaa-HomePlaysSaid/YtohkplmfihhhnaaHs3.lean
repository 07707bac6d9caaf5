/-
  The home's Take, New and Clone keep to the plain ones; what holds of a home goes on.
  Conditions: none.
-/
import Derived.Test.YtohkplmfihhhnaaHs2
set_option linter.unusedVariables false
namespace Go.Ev.Hom
open Go

theorem take_spec {σ : Store} {p s v : Nat} {h : HM L4} (H : At σ p s v h) (W : h.WF) (m : Msg L4) {K : Value → Store → Prop} (hK : Out p s v σ (h.take L4.z m) K) :
    Spec Pr F.home_Home_Take [.pointer (some ⟨p, 0, none⟩), m.agg] σ K := by
  have w1 := W.sh
  have w2 := W.inv
  have w3 := W.h4
  unfold HM.take at hK
  refine home_Home_Take.ok (takes_spec H W m ⟨_, rfl, cond_i (fun e => ?_) (fun e => ?_)⟩)
  · rw [if_pos e] at hK; exact hK.nil H (Md.refl _ _ _ _)
  rw [if_neg (by rw [e]; simp)] at hK
  have ht : h.takes m = true := by simpa using e
  have hf := HM.takes_frm ht
  have hfs : m.frm.toNat < h.sh.length := by omega
  -- a new wish
  have key : ∀ t : Bool, t = (m.kind == 1 || m.kind == 2) → home_Home_Take.j6 K p 0 m.kind t m.kind m.line m.frm m.to m.data.a m.data.b m.data.c m.data.d m.has m.dirty m.alone σ := by
    intro t et
    refine cond_i (fun e1 => ?_) (fun e1 => ?_)
    · refine H.store (h' := { h with busy := true }) rfl rfl (by omega) rfl rfl rfl fun σ1 H1 M1 =>
        H1.store (h' := { h with busy := true, serves := m.frm }) rfl rfl (by omega) rfl rfl rfl fun σ2 H2 M2 =>
        H2.store (h' := { h with busy := true, serves := m.frm, by_ := m.kind }) rfl rfl (by omega) rfl rfl rfl fun σ3 H3 M3 =>
        H3.store (h' := { h with busy := true, serves := m.frm, by_ := m.kind, back := zmsg L4.z }) rfl rfl (by omega) rfl rfl rfl fun σ4 H4 M4 => ?_
      have M := M1.trans (M2.trans (M3.trans M4))
      have W4 : HM.WF { h with busy := true, serves := m.frm, by_ := m.kind, back := zmsg L4.z } := ⟨W.h1, W.h4, W.sh, W.inv, hf.1, hf.2, W.owner0, W.owner, W.asked, fun e => by cases e⟩
      refine cond_i (fun e2 => share_spec H4 W4 ?_) (fun e2 => own_spec H4 W4 ?_)
      · rw [if_pos e2] at hK
        exact Out.md (fun σ5 a n c H5 M5 O5 => ⟨_, _, _, rfl, hK σ5 a n c H5 M5 O5⟩) M
      · rw [if_neg (by rw [show (m.kind == 1) = false from e2]; simp), if_pos (by rw [e1, show (m.kind == 1) = false from e2] at et; simpa using et)] at hK
        exact Out.md (fun σ5 a n c H5 M5 O5 => ⟨_, _, _, rfl, hK σ5 a n c H5 M5 O5⟩) M
    rw [e1] at et
    have e2 : (m.kind == 1) = false := by revert et; cases (m.kind == 1) <;> simp
    have e3 : (m.kind == 2) = false := by rw [e2] at et; simpa using et.symm
    rw [if_neg (by rw [e2]; simp), if_neg (by rw [e3]; simp)] at hK
    refine cond_i (fun e4 => ?_) (fun e4 => ?_)
    · -- Put
      rw [if_pos e4] at hK
      have j15 : ∀ (h1 : HM L4) (σ1 : Store), At σ1 p s v h1 → Md p s v σ σ1 → h1.sh = h.sh → h1.line = h.line → Out p s v σ ({ h1 with sh := h1.sh.set m.frm.toNat false }, [h.to_ L4.z m.frm 9]) K →
          home_Home_Take.j15 K p 0 m.kind m.line m.frm m.to m.data.a m.data.b m.data.c m.data.d m.has m.dirty m.alone σ1 := by
        intro h1 σ1 H1 M1 e5 e6 hK1
        refine ⟨_, _, _, rd H1.hp rfl, rq (by simp; rw [e5]; omega) (ptrI (H1.storeS m.frm.toNat (by rw [e5]; omega) false (by simp) fun σ2 H2 M2 => to_spec H2 _ _ ⟨_, _, _, _, _, _, _, _, _, _, _, rfl, newMsg (h1.to_ L4.z m.frm 9) ?_⟩))⟩
        have : h1.to_ L4.z m.frm 9 = h.to_ L4.z m.frm 9 := by unfold HM.to_; rw [e6]
        rw [this]
        exact Out.one hK1 H2 (M1.trans M2)
      refine ⟨_, rd H.hp rfl, cond_i (fun e5 => ?_) (fun e5 => hopI (j15 _ σ H (Md.refl _ _ _ _) rfl rfl ?_))⟩
      · rw [show (m.frm == h.owner) = true from e5] at hK
        refine cond_i (fun e6 => H.store (h' := { h with data := m.data }) rfl rfl (by omega) rfl rfl rfl fun σ1 H1 M1 => hopI (H1.store (h' := { h with data := m.data, owner := -1 }) rfl rfl (by omega) rfl rfl rfl fun σ2 H2 M2 => hopI (j15 _ σ2 H2 (M1.trans M2) rfl rfl ?_)))
          (fun e6 => hopI (H.store (h' := { h with owner := -1 }) rfl rfl (by omega) rfl rfl rfl fun σ2 H2 M2 => hopI (j15 _ σ2 H2 M2 rfl rfl ?_)))
        · rw [show m.dirty = true from e6] at hK; exact hK
        · rw [show m.dirty = false from e6] at hK; exact hK
      · rw [show (m.frm == h.owner) = false from e5] at hK; exact hK
    rw [if_neg (by rw [show (m.kind == 3) = false from e4]; simp)] at hK
    refine cond_i (fun e5 => ?_) (fun e5 => ?_)
    · rw [if_pos e5] at hK
      refine ⟨_, _, _, rd H.hp rfl, rq (by simp; omega) (ptrI (H.storeV m.frm.toNat (by omega) false (by simp) fun σ1 H1 M1 => owned_spec H1 (by show (h.inv.set m.frm.toNat false).length ≤ 4; rw [List.length_set]; omega) ?_))⟩
      exact Out.md (fun σ5 a n c H5 M5 O5 => ⟨_, _, _, rfl, hK σ5 a n c H5 M5 O5⟩) M1
    rw [if_neg (by rw [show (m.kind == 10) = false from e5]; simp)] at hK
    refine cond_i (fun e6 => ?_) (fun e6 => hopI ?_)
    · rw [if_pos e6] at hK
      refine H.store (h' := { h with asked := -1 }) rfl rfl (by omega) rfl rfl rfl fun σ1 H1 M1 => H1.store (h' := { h with asked := -1, back := m }) rfl rfl (by omega) rfl rfl rfl fun σ2 H2 M2 => ⟨_, rd H2.hp rfl, ?_⟩
      have M := M1.trans M2
      have hasked : h.asked = m.frm := (HM.takes_back ht (by simpa using e6)).2
      refine cond_i (fun e7 => shared_spec H2 m ?_ ?_ ?_) (fun e7 => owned_spec H2 (by show h.inv.length ≤ 4; omega) ?_)
      · exact ⟨W.serves0, by have := W.serves; have := W.serves0; show h.serves.toNat < h.sh.length; omega⟩
      · intro _ _
        have := W.asked
        show 0 ≤ h.owner ∧ h.owner.toNat < h.sh.length
        have := W.owner
        omega
      · rw [if_pos e7] at hK; exact Out.md (fun σ5 a n c H5 M5 O5 => ⟨_, _, _, rfl, hK σ5 a n c H5 M5 O5⟩) M
      · rw [if_neg (by rw [show (h.by_ == 1) = false from e7]; simp)] at hK; exact Out.md (fun σ5 a n c H5 M5 O5 => ⟨_, _, _, rfl, hK σ5 a n c H5 M5 O5⟩) M
    · rw [if_neg (by rw [show (m.kind == 11) = false from e6]; simp)] at hK
      exact H.store (h' := { h with busy := false }) rfl rfl (by omega) rfl rfl rfl fun σ1 H1 M1 => hK.nil H1 M1
  refine cond_i (fun e1 => hopI (key _ ?_)) (fun e1 => hopI (key _ ?_))
  · rw [e1]; rfl
  · rw [e1]; rfl

theorem new_spec {σ : Store} (line harts : Int) (d : L4) (h1 : 1 ≤ harts) (h4 : harts ≤ 4) {K : Value → Store → Prop}
    (hK : ∀ σ' p s v, At σ' p s v (HM.new L4.z line harts d) → Kept σ σ σ' → σ p = none → σ s = none → σ v = none → K (.pointer (some ⟨p, 0, none⟩)) σ') :
    Spec Pr F.home_New [.int .i64 line, .int .i64 harts, d.agg] σ K := by
  have e : (if 0 > harts then 0 else harts) = harts := if_neg (by omega)
  have zf : ∀ (b : Nat) (σ1 : Store), σ1 b = none → (σ1.set b ⟨4, zeroN [.bool false] harts.toNat, (0, 0)⟩) b = some ⟨4, bc (List.replicate harts.toNat false), (0, 0)⟩ := by
    intro b σ1 hb; rw [set_same, zeroN_false]
  have nn : ∀ {σ1 : Store} {b b' : Nat} {k : Blk}, (σ1.set b k) b' = none → b' ≠ b ∧ σ1 b' = none := by
    intro σ1 b b' k hb
    by_cases e : b' = b
    · subst e; simp at hb
    · rw [set_diff e] at hb; exact ⟨e, hb⟩
  refine home_New.ok ?_
  unfold home_New.m
  rw [e]
  constructor
  all_goals
    refine ⟨by omega, by omega, by omega, by omega, fun b1 hb1 => ⟨by omega, by omega, by omega, by omega, fun b2 hb2 => fun b3 hb3 => ?_⟩⟩
    obtain ⟨n21, hb2'⟩ := nn hb2
    obtain ⟨n32, hb3'⟩ := nn hb3
    obtain ⟨n31, hb3''⟩ := nn hb3'
  · refine hK _ b3 b1 b2 ⟨?_, ?_, ?_, n21.symm, n31.symm, n32.symm⟩ ?_ hb3'' hb1 hb2'
    · rw [set_same]; simp only [HM.new, List.length_replicate]; rfl
    · rw [set_diff n31.symm, set_diff n21.symm]; exact zf _ _ hb1
    · rw [set_diff n32.symm]; exact zf _ _ hb2
    · exact ((newKept _ hb1).trans ⟨fun i hi => (newKept _ hb2).same i (by rw [(newKept _ hb1).same i hi]; exact hi), (newKept _ hb2).dom⟩).trans ⟨fun i hi => set_diff (fun e => hi (by rw [e]; exact hb3'')), (newKept _ hb3).dom⟩
  · refine hK _ b3 b2 b1 ⟨?_, ?_, ?_, n21, n32.symm, n31.symm⟩ ?_ hb3'' hb2' hb1
    · rw [set_same]; simp only [HM.new, List.length_replicate]; rfl
    · rw [set_diff n32.symm]; exact zf _ _ hb2
    · rw [set_diff n31.symm, set_diff n21.symm]; exact zf _ _ hb1
    · exact ((newKept _ hb1).trans ⟨fun i hi => (newKept _ hb2).same i (by rw [(newKept _ hb1).same i hi]; exact hi), (newKept _ hb2).dom⟩).trans ⟨fun i hi => set_diff (fun e => hi (by rw [e]; exact hb3'')), (newKept _ hb3).dom⟩

end Go.Ev.Hom
