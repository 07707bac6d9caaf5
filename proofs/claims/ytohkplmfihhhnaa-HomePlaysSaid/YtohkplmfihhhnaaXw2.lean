/-
  HomePlays: whatever the messages, it answers true.
  Conditions: none.
-/
import Derived.Test.YtohkplmfihhhnaaXw
set_option linter.unusedVariables false
namespace Go.Ev.Hom
open Go

structure LP (σ0 : Store) (p s v q : Nat) (σ : Store) (h : HM L4) (x : XM L4) (S W : SL) : Prop where
  home : At σ p s v h
  xa : XA [p, s, v, q] σ q x S W
  dq : q ≠ p ∧ q ≠ s ∧ q ≠ v
  base : ∀ b, σ0 b ≠ none → σ b = σ0 b
  fr : σ0 p = none ∧ σ0 s = none ∧ σ0 v = none ∧ σ0 q = none

section
variable {σ0 : Store} {p s v q : Nat} {K : Value → Store → Prop}

theorem LP.dom {σ : Store} {h : HM L4} {x : XM L4} {S W : SL} (L : LP σ0 p s v q σ h x S W) : ∀ b, σ0 b ≠ none → σ b ≠ none := fun b hb => by rw [L.base b hb]; exact hb

theorem LP.kept {σ σ' : Store} {h : HM L4} {x : XM L4} {S W : SL} (L : LP σ0 p s v q σ h x S W) (k : Kept σ σ σ') : LP σ0 p s v q σ' h x S W :=
  ⟨L.home.kept' k, L.xa.kept k, L.dq, fun b hb => (k.same b (L.dom b hb)).trans (L.base b hb), L.fr⟩

theorem LP.md {σ σ' : Store} {h h' : HM L4} {x : XM L4} {S W : SL} (L : LP σ0 p s v q σ h x S W) (M : Md p s v σ σ') (H : At σ' p s v h') : LP σ0 p s v q σ' h' x S W := by
  have mv : ∀ b, b ∉ [p, s, v, q] → σ b ≠ none → σ' b = σ b := fun b hb hb' => by
    simp at hb
    exact M.same b hb.1 hb.2.1 hb.2.2.1 hb'
  exact ⟨H, ⟨(M.same q L.dq.1 L.dq.2.1 L.dq.2.2 L.xa.nq).trans L.xa.hq, L.xa.hs.move mv, L.xa.hw.move mv⟩, L.dq,
    fun b hb => (M.same b (fun e => hb (by rw [e]; exact L.fr.1)) (fun e => hb (by rw [e]; exact L.fr.2.1)) (fun e => hb (by rw [e]; exact L.fr.2.2.1)) (L.dom b hb)).trans (L.base b hb), L.fr⟩

theorem LP.mq {σ σ' : Store} {h : HM L4} {x x' : XM L4} {S W S' W' : SL} (L : LP σ0 p s v q σ h x S W) (M : Mq q σ σ') (H : XA [p, s, v, q] σ' q x' S' W') : LP σ0 p s v q σ' h x' S' W' :=
  ⟨⟨(M.same p L.dq.1.symm L.home.np).trans L.home.hp, (M.same s L.dq.2.1.symm L.home.ns).trans L.home.hs, (M.same v L.dq.2.2.symm L.home.nv).trans L.home.hv, L.home.sv, L.home.sp, L.home.vp⟩, H, L.dq,
    fun b hb => (M.same b (fun e => hb (by rw [e]; exact L.fr.2.2.2)) (L.dom b hb)).trans (L.base b hb), L.fr⟩

theorem LP.av {σ : Store} {h : HM L4} {x : XM L4} {S W : SL} (L : LP σ0 p s v q σ h x S W) : ∀ b ∈ [p, s, v, q], σ b ≠ none := by
  intro b hb
  simp at hb
  rcases hb with rfl | rfl | rfl | rfl
  · exact L.home.np
  · exact L.home.ns
  · exact L.home.nv
  · exact L.xa.nq

theorem R.short {h : HM L4} {x : XM L4} (r : R h x) : h.sh.length ≤ 4 ∧ h.inv.length ≤ 4 ∧ x.sh.length ≤ 4 ∧ x.waits.length ≤ 4 := by
  have w1 := r.wf.sh
  have w2 := r.wf.inv
  have w3 := r.wf.h4
  have w4 := r.wf.h1
  have L1 := (law' (l := h.sh) (r := 0) (by omega) (by omega) (by omega) (by show 0 < h.sh.length; omega)).short
  have L2 := (law' (l := h.inv) (r := 0) (by omega) (by omega) (by omega) (by show 0 < h.inv.length; omega)).short
  rw [r.sh, r.waits]
  omega

theorem plays_loop {lA : Option Addr} {lN lC : Nat} {ms : List (Msg L4)} (hms : IsL Msg.cells 11 σ0 lA lN ms) (hn : ms.length ≤ 80) (hK : ∀ σ', Same σ0 σ' → K (.bool true) σ') :
    ∀ (f n : Nat) (h : HM L4) (x : XM L4) (S W : SL) (σ : Store), n + f = ms.length → LP σ0 p s v q σ h x S W → R h x →
      corrallaw18_HomePlays.l12 K (f + 1) lA lN lC (some ⟨p, 0, none⟩) (some ⟨q, 0, none⟩) (n : Int) σ
  | 0, n, h, x, S, W, σ, hn', L, r => by
    refine cond_f ?_ (hopI (hK σ L.base))
    rw [hms.1]; simp; omega
  | f + 1, n, h, x, S, W, σ, hn', L, r => by
    have ms_at : ∀ (σ' : Store), Same σ0 σ' → IsL Msg.cells 11 σ' lA lN ms := fun σ' hs => hms.mono fun b k hb => by rw [hs b (by rw [hb]; simp)]; exact hb
    obtain ⟨b1, b2, b3, b4⟩ := r.short
    have hin : n < ms.length := by omega
    refine cond_t (by rw [hms.1]; simp; omega) (hclone_spec L.home b1 b2 fun σ1 c kc k1 hc1 hc2 hc3 => ⟨_, rfl, ?_⟩)
    have L1 := L.kept k1
    have I1 := ms_at σ1 L1.base
    refine IsL.at Msg.cells_length I1 n rfl hin fun B O hc => ⟨ms[n].kind, ms[n].line, ms[n].frm, ms[n].to, ms[n].data.a, ms[n].data.b, ms[n].data.c, ms[n].data.d, ms[n].has, ms[n].dirty, ms[n].alone, hc, takes_spec L1.home r.wf ms[n] ⟨_, rfl, ?_⟩⟩
    refine IsL.at Msg.cells_length I1 n rfl hin fun B O hc => ⟨ms[n].kind, ms[n].line, ms[n].frm, ms[n].to, ms[n].data.a, ms[n].data.b, ms[n].data.c, ms[n].data.d, ms[n].has, ms[n].dirty, ms[n].alone, hc, xtakes_spec L1.xa (by omega) ms[n] ⟨_, rfl, ?_⟩⟩
    refine cond_f (by rw [takes_eq r]; simp) (cond_f rfl (hopI ?_))
    have ncp : ∀ b, σ b ≠ none → c ≠ b := fun b hb e => hb (by rw [← e]; exact hc1)
    have j25 : ∀ (h' : HM L4) (x' : XM L4) (S' W' : SL) (σ' : Store), LP σ0 p s v q σ' h' x' S' W' → R h' x' →
        corrallaw18_HomePlays.j25 K (corrallaw18_HomePlays.l12 K (f + 1)) lA lN lC (some ⟨p, 0, none⟩) (some ⟨q, 0, none⟩) (n : Int) σ' := by
      intro h' x' S' W' σ' L r
      obtain ⟨b1, b2, b3, b4⟩ := r.short
      refine ptrI ⟨x'.busy, rd L.xa.hq rfl, busy_spec L.home ⟨_, rfl, rds L.xa.hq (by show 9 ≤ 25; omega) rfl, cond_f (by rw [r.busy]; simp) ?_⟩⟩
      refine ptrI ⟨x'.owner, rd L.xa.hq rfl, owner_spec L.home ⟨_, rfl, rds L.xa.hq (by show 7 ≤ 25; omega) rfl, cond_f (by rw [r.owner]; simp) ?_⟩⟩
      refine ptrI ⟨_, _, _, rd L.xa.hq rfl, sharers_spec L.home b1 fun σ4 a4 n4 c4 O4 k4 => ⟨_, _, _, rfl, rds (L.kept k4).xa.hq (by show 8 ≤ 25; omega) rfl, ?_⟩⟩
      have L4 := L.kept k4
      have hxs := L4.xa.hs.isI
      rw [r.sh] at hxs
      have hsl : (tIdx 0 h'.sh).length ≤ 1000 := by rw [← r.sh]; omega
      refine sameInts_spec O4.isL hxs hsl ⟨_, rfl, cond_f rfl ?_⟩
      refine ptrI ⟨x'.mem.a, x'.mem.b, x'.mem.c, x'.mem.d, rds L4.xa.hq (by show 6 ≤ 25; omega) rfl, data_spec L4.home ⟨_, _, _, _, rfl, rds L4.xa.hq (by show 6 ≤ 25; omega) rfl, same_spec h'.data x'.mem ⟨_, rfl, cond_f (by rw [r.mem]; simp) (hopI ?_)⟩⟩⟩
      rw [wrap_succ (by omega)]
      exact plays_loop hms hn hK f (n + 1) h' x' S' W' σ4 (by omega) L4 r
    have j23 : ∀ (h' : HM L4) (x' : XM L4) (S' W' : SL) (σ' : Store) (a a' : Option Addr) (k k' cc cc' : Nat) (l : List (Msg L4)), LP σ0 p s v q σ' h' x' S' W' → R h' x' → σ' c = some kc → IsL Msg.cells 11 σ' a k l → IsL Msg.cells 11 σ' a' k' l → l.length ≤ 1000 →
        corrallaw18_HomePlays.j23 K (corrallaw18_HomePlays.l12 K (f + 1)) lA lN lC (some ⟨p, 0, none⟩) (some ⟨q, 0, none⟩) (n : Int) (some ⟨c, 0, none⟩) h.owner a k cc a' k' cc' σ' := by
      intro h' x' S' W' σ' a a' k k' cc cc' l L r hcc hl hl' hll
      exact sameMsgs_spec hl hl' hll ⟨_, rfl, cond_f rfl (home_Home_Owner.ok ⟨_, rd hcc hc3, ⟨_, rfl, cond_f (by simp) (hopI (j25 h' x' S' W' σ' L r))⟩⟩)⟩
    refine owner_spec L1.home ⟨_, rfl, ?_⟩
    refine IsL.at Msg.cells_length I1 n rfl hin fun B O hc => ⟨ms[n].kind, ms[n].line, ms[n].frm, ms[n].to, ms[n].data.a, ms[n].data.b, ms[n].data.c, ms[n].data.d, ms[n].has, ms[n].dirty, ms[n].alone, hc, take_spec L1.home r.wf ms[n] fun σ2 a2 n2 c2 H2 M2 O2 => ⟨_, _, _, rfl, ?_⟩⟩
    have L2 := L1.md M2 H2
    have I2 := ms_at σ2 L2.base
    have hcc2 : σ2 c = some kc := (M2.same c (ncp p L.home.np) (ncp s L.home.ns) (ncp v L.home.nv) (by rw [hc2]; simp)).trans hc2
    have tl := take_len L4.z h ms[n] r.wf
    refine cond_i (fun e => ?_) (fun e => hopI ?_)
    · obtain ⟨st1, st2⟩ := step (z := L4.z) r ms[n] e
      have w1 := r.wf.h1
      have w4 := r.wf.h4
      refine IsL.at Msg.cells_length I2 n rfl hin fun B O hc => ⟨ms[n].kind, ms[n].line, ms[n].frm, ms[n].to, ms[n].data.a, ms[n].data.b, ms[n].data.c, ms[n].data.d, ms[n].has, ms[n].dirty, ms[n].alone, hc, xtake_spec (by simp) L2.av L2.xa (by rw [r.harts]; omega) (by rw [r.harts]; omega) (by omega) (by omega) ms[n] fun σ3 a3 n3 c3 S3 W3 H3 M3 O3 => ⟨_, _, _, rfl, hopI ?_⟩⟩
      have L3 := L2.mq M3 H3
      have hcc3 : σ3 c = some kc := (M3.same c (ncp q L.xa.nq) (by rw [hcc2]; simp)).trans hcc2
      have O2' : OwnM σ1 σ3 a2 n2 c2 (h.take L4.z ms[n]).2 := Own.ch O2 fun b hb hb' => M3.same b (fun e => L1.xa.nq (by rw [← e]; exact hb)) hb'
      rw [← st1] at O3
      exact j23 _ _ _ _ σ3 a2 a3 n2 n3 c2 c3 _ L3 st2 hcc3 O2'.isL O3.isL (by omega)
    · have et : h.take L4.z ms[n] = (h, []) := by unfold HM.take; rw [if_pos (by rw [show h.takes ms[n] = false from e]; rfl)]
      rw [et] at O2 L2
      exact j23 h x S W σ2 a2 none n2 0 c2 0 [] L2 r hcc2 O2.isL ⟨rfl, fun h => (h rfl).elim⟩ (by simp)

end

end Go.Ev.Hom
