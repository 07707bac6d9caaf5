/-
  HomeAlone keeps to the plain law: the loop over the messages of one wish.
  Conditions: none.
-/
import Derived.Test.YtohkplmfihhhnaaHw
set_option linter.unusedVariables false
namespace Go.Ev.Hom
open Go

abbrev sameL (now : L4) : L4 → Bool := fun d => decide (d = now)

section
variable {σ0 : Store} {p s v sb nb : Nat} {K : Value → Store → Prop} {r12 : corrallaw18_HomeAlone.R12} {wA : Option Addr} {wN wC : Nat} {i r_ : Int} {write : Bool}

theorem msgs_loop {σw : Store} {hw : HM L4} {stw : List Int} {now : L4} (Lw : LA σ0 p s v sb nb σw hw stw now) (hr0 : 0 ≤ r_) (hr4 : r_ < 4) :
    ∀ (f n : Nat) (a : Option Addr) (nn c : Nat) (h : HM L4) (st : List Int) (out : List (Msg L4)) (got : Bool) (σ : Store) (h' : HM L4) (st' : List Int) (got' : Bool),
      n + f = 10 → LA σ0 p s v sb nb σ h st now → st.length = 4 → OwnM σw σ a nn c out → out.length ≤ 8 * (n + 1) → (∀ b, σw b ≠ none → σ b ≠ none) → h.WF →
      run L4.z (sameL now) now r_ write f h st out got = some (h', st', got') →
      (∀ σ', LA σ0 p s v sb nb σ' h' st' now → h'.WF → st'.length = 4 → (∀ b, σw b ≠ none → σ' b ≠ none) → corrallaw18_HomeAlone.j61 K r12 wA wN wC (some ⟨p, 0, none⟩) (some ⟨sb, 0, none⟩) 4 4 nb 0 i r_ write got' σ') →
      corrallaw18_HomeAlone.l23 K r12 (f + 1) wA wN wC (some ⟨p, 0, none⟩) (some ⟨sb, 0, none⟩) 4 4 nb 0 i r_ write a nn c got (n : Int) σ
  | 0, n, a, nn, c, h, st, out, got, σ, h', st', got', hn, L, hl, O, ho, hd, W, hrun, hK => by
    unfold run at hrun
    injection hrun with hrun
    injection hrun with e1 e2
    injection e2 with e2 e3
    subst e1 e2 e3
    exact cond_f (by simp; omega) (hopI (hK σ L W hl hd))
  | f + 1, n, a, nn, c, h, st, [], got, σ, h', st', got', hn, L, hl, O, ho, hd, W, hrun, hK => by
    unfold run at hrun
    injection hrun with hrun
    injection hrun with e1 e2
    injection e2 with e2 e3
    subst e1 e2 e3
    refine cond_t (by simp; omega) (cond_f ?_ (hopI (hK σ L W hl hd)))
    have := O.1
    simp at this
    simp [this]
  | f + 1, n, a, nn, c, h, st, m :: out, got, σ, h', st', got', hn, L, hl, O, ho, hd, W, hrun, hK => by
    unfold run at hrun
    have O1 := O.1
    have O2 := O.2.1
    simp at O1
    simp at ho
    refine cond_t (by simp; omega) (cond_t (by simp; omega) (hopI ?_))
    refine IsL.at Msg.cells_length O.isL 0 rfl (by simp) fun B Of hc => ⟨m.kind, m.line, m.frm, m.to, m.data.a, m.data.b, m.data.c, m.data.d, m.has, m.dirty, m.alone, hc, rq (by simp [okIdx]; omega) ?_⟩
    have OT := Own.tail Msg.cells_length O
    -- what is left to do when the answer is known
    have j58 : ∀ (b : Msg L4) (st1 : List Int) (got1 : Bool) (σ1 : Store), LA σ0 p s v sb nb σ1 h st1 now → st1.length = 4 → OwnM σw σ1 (slAddr a 1 c 11) (nn - 1) (c - 1) out → (∀ b, σw b ≠ none → σ1 b ≠ none) →
        (bif h.takes b then run L4.z (sameL now) now r_ write f (h.take L4.z b).1 st1 (out ++ (h.take L4.z b).2) got1 else none) = some (h', st', got') →
        corrallaw18_HomeAlone.j58 K r12 (corrallaw18_HomeAlone.l23 K r12 (f + 1)) wA wN wC (some ⟨p, 0, none⟩) (some ⟨sb, 0, none⟩) 4 4 nb 0 i r_ write (slAddr a 1 c 11) (nn - 1) (c - 1) got1 (n : Int) b.kind b.line b.frm b.to b.data.a b.data.b b.data.c b.data.d b.has b.dirty b.alone σ1 := by
      intro b st1 got1 σ1 L1 hl1 P1 hd1 hr
      refine takes_spec L1.home W b ⟨_, rfl, ?_⟩
      cases ht : h.takes b with
      | false => rw [ht] at hr; cases hr
      | true =>
        rw [ht] at hr
        simp only [cond_true] at hr
        refine cond_f rfl (take_spec L1.home W b fun σ2 a2 n2 c2 H2 M2 P2 => ⟨_, _, _, rfl, ?_⟩)
        have P1' : OwnM σw σ2 (slAddr a 1 c 11) (nn - 1) (c - 1) out := Own.ch P1 fun q hq hq' => M2.same q (fun e => Lw.dom.1 (by rw [← e]; exact hq)) (fun e => Lw.dom.2.1 (by rw [← e]; exact hq)) (fun e => Lw.dom.2.2.1 (by rw [← e]; exact hq)) hq'
        have hd2 : ∀ b, σw b ≠ none → σ2 b ≠ none := fun b hb => M2.dom b (hd1 b hb)
        have tl := take_len L4.z h b W
        have e2 := P2.1
        refine ⟨_, P2.isL.src, Own.app Msg.cells_length Msg.cells_one P1' hd2 rfl rfl e2 (by omega) (by omega) fun a3 n3 c3 σ3 P3 k3 => hopI ?_⟩
        rw [wrap_succ (by omega)]
        refine msgs_loop Lw hr0 hr4 f (n + 1) a3 n3 c3 (h.take L4.z b).1 st1 (out ++ (h.take L4.z b).2) got1 σ3 h' st' got' (by omega) (Lw.kept (L1.md M2 H2) k3) hl1 P3 (by simp only [List.length_append]; omega) (fun b hb => k3.dom b (hd2 b hb)) (HM.take_wf W b) hr hK
    -- a state is written
    have setSt : ∀ (k x : Int) (st1 : List Int) (σ1 : Store) (KK : Store → Prop), 0 ≤ k → k < 4 → LA σ0 p s v sb nb σ1 h st1 now → st1.length = 4 → OwnM σw σ1 (slAddr a 1 c 11) (nn - 1) (c - 1) out → (∀ b, σw b ≠ none → σ1 b ≠ none) →
        (∀ σ2, LA σ0 p s v sb nb σ2 h (st1.set k.toNat x) now → OwnM σw σ2 (slAddr a 1 c 11) (nn - 1) (c - 1) out → (∀ b, σw b ≠ none → σ2 b ≠ none) → KK σ2) →
        Req (decide (0 ≤ k) && decide (k < ((4 : Nat) : Int))) (PtrNN (some ⟨sb, 0, none⟩) fun B O => StoreK σ1 B (O + k.toNat * 1) 1 [.int .i64 x] KK) := by
      intro k x st1 σ1 KK k0 k4 L1 hl1 P1 hd1 hKK
      refine rq (by simp; omega) (ptrI (L1.setSt (by omega) x fun σ2 L2 s2 d2 => hKK σ2 L2 (Own.ch P1 fun q hq hq' => s2 q fun e => Lw.dom.2.2.2.1 (by rw [← e]; exact hq)) fun b hb => d2 b (hd1 b hb)))
    have getSt : ∀ (k : Int) (σ1 : Store) (st1 : List Int), 0 ≤ k → k < 4 → LA σ0 p s v sb nb σ1 h st1 now → st1.length = 4 → ∀ (KK : Int → Prop), KK (st1.getD k.toNat 0) →
        Req (decide (0 ≤ k) && decide (k < ((4 : Nat) : Int))) (PtrNN (some ⟨sb, 0, none⟩) fun B O => ∃ t : Int, cellAt σ1 B (O + k.toNat * 1) = some (.int .i64 t) ∧ KK t) := by
      intro k σ1 st1 k0 k4 L1 hl1 KK hKK
      exact rq (by simp; omega) (ptrI ⟨_, L1.readSt (by omega), hKK⟩)
    unfold react at hrun
    refine cond_i (fun e => ?_) (fun e1 => cond_i (fun e => ?_) (fun e2 => hopI ?_))
    · simp at e; rw [if_pos e] at hrun; cases hrun
    · simp at e e1; rw [if_neg (by omega), if_pos (by omega)] at hrun; cases hrun
    simp at e1 e2
    rw [if_neg (by omega), if_neg (by omega)] at hrun
    refine cond_i (fun e3 => ?_) (fun e3 => ?_)
    · rw [if_pos e3] at hrun
      exact setSt m.to 0 st σ _ (by omega) (by omega) L hl OT hd fun σ2 L2 P2 d2 => hopI (j58 ⟨10, 0, m.to, -1, L4.z, false, false, false⟩ _ got σ2 L2 (by simp [hl]) P2 d2 hrun)
    rw [if_neg (by rw [show (m.kind == 4) = false from e3]; simp)] at hrun
    have j38 : ∀ t : Bool, t = (m.kind == 5 || m.kind == 6) →
        corrallaw18_HomeAlone.j38 K r12 (corrallaw18_HomeAlone.l23 K r12 (f + 1)) wA wN wC (some ⟨p, 0, none⟩) (some ⟨sb, 0, none⟩) 4 4 nb 0 i r_ write (slAddr a 1 c 11) (nn - 1) (c - 1) got (n : Int) m.to m.kind t m.kind m.line m.frm m.to m.data.a m.data.b m.data.c m.data.d m.has m.dirty m.alone 0 0 m.to (-1) 0 0 0 0 false false false σ := by
      intro t ht
      rw [← ht] at hrun
      refine cond_i (fun e4 => ?_) (fun e4 => ?_)
      · rw [if_pos e4] at hrun
        refine getSt m.to σ st (by omega) (by omega) L hl _ (cond_i (fun e5 => ?_) (fun e5 => getSt m.to σ st (by omega) (by omega) L hl _ (cond_i (fun e6 => ?_) (fun e6 => hopI ?_))))
        · rw [e5] at hrun; cases hrun
        · rw [e6, Bool.or_true] at hrun; cases hrun
        rw [e5, e6] at hrun
        simp only [Bool.or_self, Bool.false_eq_true, if_false] at hrun
        refine ⟨_, _, _, _, rds L.hnow (by show 0 + 4 ≤ 4; omega) rfl, getSt m.to σ st (by omega) (by omega) L hl _ ?_⟩
        have j44 : ∀ d : Bool, d = (st.getD m.to.toNat 0 == 4 || st.getD m.to.toNat 0 == 3) →
            corrallaw18_HomeAlone.j44 K r12 (corrallaw18_HomeAlone.l23 K r12 (f + 1)) wA wN wC (some ⟨p, 0, none⟩) (some ⟨sb, 0, none⟩) 4 4 nb 0 i r_ write (slAddr a 1 c 11) (nn - 1) (c - 1) got (n : Int) m.to m.kind m.line m.frm m.to m.data.a m.data.b m.data.c m.data.d m.has m.dirty m.alone 11 0 m.to (-1) now.a now.b now.c now.d true d false σ := by
          intro d hd'
          rw [← hd'] at hrun
          refine cond_i (fun e7 => ?_) (fun e7 => cond_i (fun e8 => ?_) (fun e8 => ?_))
          · rw [if_pos e7] at hrun
            exact setSt m.to 0 st σ _ (by omega) (by omega) L hl OT hd fun σ2 L2 P2 d2 => hopI (j58 ⟨11, 0, m.to, -1, now, true, d, false⟩ _ got σ2 L2 (by simp [hl]) P2 d2 hrun)
          · rw [if_neg (by rw [show (m.kind == 6) = false from e7]; simp), if_pos e8] at hrun
            exact setSt m.to 3 st σ _ (by omega) (by omega) L hl OT hd fun σ2 L2 P2 d2 => hopI (j58 ⟨11, 0, m.to, -1, now, true, d, false⟩ _ got σ2 L2 (by simp [hl]) P2 d2 hrun)
          · rw [if_neg (by rw [show (m.kind == 6) = false from e7]; simp), if_neg (by rw [e8]; simp)] at hrun
            exact setSt m.to 1 st σ _ (by omega) (by omega) L hl OT hd fun σ2 L2 P2 d2 => hopI (j58 ⟨11, 0, m.to, -1, now, true, d, false⟩ _ got σ2 L2 (by simp [hl]) P2 d2 hrun)
        refine cond_i (fun e7 => hopI (j44 true ?_)) (fun e7 => getSt m.to σ st (by omega) (by omega) L hl _ (hopI (j44 _ ?_)))
        · rw [e7]; rfl
        · rw [e7]; rfl
      · rw [if_neg (by rw [e4]; simp)] at hrun
        have j51 : ∀ t : Bool, t = (m.kind == 7 || m.kind == 8) →
            corrallaw18_HomeAlone.j51 K r12 (corrallaw18_HomeAlone.l23 K r12 (f + 1)) wA wN wC (some ⟨p, 0, none⟩) (some ⟨sb, 0, none⟩) 4 4 nb 0 i r_ write (slAddr a 1 c 11) (nn - 1) (c - 1) (n : Int) m.to t m.kind m.line m.frm m.to m.data.a m.data.b m.data.c m.data.d m.has m.dirty m.alone 0 0 m.to (-1) 0 0 0 0 false false false σ := by
          intro t ht
          rw [← ht] at hrun
          refine cond_i (fun e5 => ?_) (fun e5 => ?_)
          · rw [if_pos e5] at hrun
            refine cond_i (fun e6 => ?_) (fun e6 => ?_)
            · rw [e6] at hrun; simp at hrun
            rw [e6] at hrun
            simp only [Bool.false_or] at hrun
            have j53 : (m.kind == 7 && !sameL now m.data || m.kind == 8 && st.getD r_.toNat 0 != 3) = false →
                corrallaw18_HomeAlone.j53 K r12 (corrallaw18_HomeAlone.l23 K r12 (f + 1)) wA wN wC (some ⟨p, 0, none⟩) (some ⟨sb, 0, none⟩) 4 4 nb 0 i r_ write (slAddr a 1 c 11) (nn - 1) (c - 1) (n : Int) m.kind m.line m.frm m.to m.data.a m.data.b m.data.c m.data.d m.has m.dirty m.alone 0 0 m.to (-1) 0 0 0 0 false false false σ := by
              intro ec
              rw [if_neg (by rw [ec]; simp)] at hrun
              refine setSt r_ 1 st σ _ hr0 hr4 L hl OT hd fun σ2 L2 P2 d2 => ?_
              have j57 : ∀ t : Bool, t = (write || m.alone) →
                  corrallaw18_HomeAlone.j57 K r12 (corrallaw18_HomeAlone.l23 K r12 (f + 1)) wA wN wC (some ⟨p, 0, none⟩) (some ⟨sb, 0, none⟩) 4 4 nb 0 i r_ write (slAddr a 1 c 11) (nn - 1) (c - 1) true (n : Int) t 12 0 m.to (-1) 0 0 0 0 false false false σ2 := by
                intro t ht
                rw [← ht] at hrun
                refine cond_i (fun e7 => ?_) (fun e7 => hopI ?_)
                · rw [if_pos e7] at hrun
                  exact setSt r_ 2 _ σ2 _ hr0 hr4 L2 (by simp [hl]) P2 d2 fun σ3 L3 P3 d3 => hopI (j58 ⟨12, 0, m.to, -1, L4.z, false, false, false⟩ _ true σ3 L3 (by simp [hl]) P3 d3 hrun)
                · rw [if_neg (by rw [e7]; simp)] at hrun
                  exact j58 ⟨12, 0, m.to, -1, L4.z, false, false, false⟩ _ true σ2 L2 (by simp [hl]) P2 d2 hrun
              refine cond_i (fun e7 => hopI (j57 _ ?_)) (fun e7 => hopI (j57 _ ?_))
              · rw [show write = true from e7]; rfl
              · rw [show write = false from e7]; rfl
            refine cond_i (fun e7 => ⟨_, _, _, _, rds L.hnow (by show 0 + 4 ≤ 4; omega) rfl, same_spec m.data now ⟨_, rfl, ?_⟩⟩) (fun e7 => cond_i (fun e8 => ?_) (fun e8 => hopI (j53 ?_)))
            · have e8 : (m.kind == 8) = false := by
                have : m.kind = 7 := by simpa using e7
                rw [this]; rfl
              refine cond_i (fun e9 => ?_) (fun e9 => cond_f e8 (hopI (j53 ?_)))
              · rw [show (m.kind == 7) = true from e7, show (!sameL now m.data) = true from e9] at hrun; simp at hrun
              · rw [show (!sameL now m.data) = false from e9, e8]; simp
            · refine getSt r_ σ st hr0 hr4 L hl _ (cond_i (fun e9 => ?_) (fun e9 => hopI (j53 ?_)))
              · rw [show (m.kind == 7) = false from e7, show (m.kind == 8) = true from e8, e9] at hrun; simp at hrun
              · rw [show (m.kind == 7) = false from e7, e9]; simp
            · rw [show (m.kind == 7) = false from e7, show (m.kind == 8) = false from e8]; rfl
          · rw [if_neg (by rw [e5]; simp)] at hrun; cases hrun
        refine cond_i (fun e5 => hopI (j51 _ ?_)) (fun e5 => hopI (j51 _ ?_))
        · rw [show (m.kind == 7) = true from e5]; rfl
        · rw [show (m.kind == 7) = false from e5]; rfl
    refine cond_i (fun e4 => hopI (j38 _ ?_)) (fun e4 => hopI (j38 _ ?_))
    · rw [show (m.kind == 5) = true from e4]; rfl
    · rw [show (m.kind == 5) = false from e4]; rfl

end

end Go.Ev.Hom
