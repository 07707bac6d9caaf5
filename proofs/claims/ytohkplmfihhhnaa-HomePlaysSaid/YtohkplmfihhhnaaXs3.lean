/-
  The document's home: Take keeps to its plain function.
  Conditions: none.
-/
import Derived.Test.YtohkplmfihhhnaaXs2
set_option linter.unusedVariables false
namespace Go.Ev.Hom
open Go

variable {av : List Nat} {q : Nat}

theorem srt_gen {σ : Store} {xs : List Int} (hn : xs.length ≤ 100) (v : Int) {K : Value → Store → Prop} (hK : OutI σ (sortF (xs ++ [v])) K) {σ5 : Store} {A : Option Addr} {N C : Nat} (O : OwnI σ σ5 A N C xs) (k : Kept σ σ σ5) :
    AppK 3 1 8 [.int .i64 0] σ5 A N C [.int .i64 v] 1 fun a n c σ6 => Spec Pr F.corralref_Sorted [.slice a n c] σ6 K := by
  have O1 := O.1
  refine Own.app ei_len ei_one O k.dom rfl (ys := [v]) rfl rfl (by show (2 * (N + 1) + 768) * 8 ≤ _; omega) (by show N + 1 ≤ _; omega) fun a2 n2 c2 σ2 O2 k2 => ?_
  refine sorted_spec O2.isL (by simp; omega) fun σ3 a3 n3 c3 O3 k3 => ?_
  have kk : Kept σ σ σ2 := k.trans k2
  exact hK σ3 a3 n3 c3 (Own.base O3 kk.dom) ⟨fun b hb => (k3.same b (kk.dom b hb)).trans (kk.same b hb), fun b hb => k3.dom b (kk.dom b hb)⟩

theorem xloop {σ0 : Store} {x : XM L4} {s w : SL} {r_ : Int} (hav : q ∈ av) (H0 : XA av σ0 q x s w) (hh : x.harts.toNat ≤ 4) (hh0 : 0 ≤ x.harts) (hwn : x.waits.length ≤ 1000) {K : Value → Store → Prop} :
    ∀ (n k : Nat) (oa : Option Addr) (on oc : Nat) (asked : Int) (ys : List (Msg L4)) (σ : Store), k + n = x.harts.toNat → XA av σ q { x with asked := asked } s w → OwnM σ0 σ oa on oc ys → ys.length ≤ 2 * k → Mq q σ0 σ →
      (∀ σ' oa on oc, XA av σ' q { x with asked := (XM.loop L4.z x r_ n k asked).1 } s w → OwnM σ0 σ' oa on oc (ys ++ (XM.loop L4.z x r_ n k asked).2) → Mq q σ0 σ' → corralref18_Home_Take.j33 K q 0 oa on oc σ') →
      corralref18_Home_Take.l26 K (n + 1) q 0 r_ oa on oc (k : Int) σ
  | 0, k, oa, on, oc, asked, ys, σ, hk, H, O, hy, M, hK => by
    refine ⟨_, rd H.hq rfl, cond_f ?_ (hopI (hK σ oa on oc H (by simpa [XM.loop] using O) M))⟩
    show decide ((k : Int) < x.harts) = false
    simp; omega
  | n + 1, k, oa, on, oc, asked, ys, σ, hk, H, O, hy, M, hK => by
    have O1 := O.1
    refine ⟨_, rd H.hq rfl, cond_t ?_ ⟨_, _, _, rd H.hq rfl, among_spec H.hw.isI hwn _ ⟨_, rfl, ?_⟩⟩⟩
    · show decide ((k : Int) < x.harts) = true
      simp; omega
    unfold XM.loop at hK
    simp only at hK
    -- behind the first question
    have j30 : ∀ (oa : Option Addr) (on oc : Nat) (zs : List (Msg L4)) (σ1 : Store), XA av σ1 q { x with asked := asked } s w → OwnM σ0 σ1 oa on oc (ys ++ zs) → zs.length ≤ 1 → Mq q σ0 σ1 →
        zs = (if x.waits.contains (k : Int) && (k : Int) != x.owner then [x.msg L4.z 4 k] else []) →
        corralref18_Home_Take.j30 K (corralref18_Home_Take.l26 K (n + 1)) q 0 r_ oa on oc (k : Int) σ1 := by
      intro oa on oc zs σ1 H1 P1 hz M1 ez
      rw [← ez] at hK
      have p1 := P1.1
      simp at p1
      have j31 : ∀ t : Bool, t = ((k : Int) == x.owner && (k : Int) != r_) → corralref18_Home_Take.j31 K (corralref18_Home_Take.l26 K (n + 1)) q 0 r_ oa on oc (k : Int) t σ1 := by
        intro t ht
        rw [← ht] at hK
        refine cond_i (fun e => ?_) (fun e => hopI ?_)
        · rw [if_pos e, if_pos e] at hK
          refine H1.store hav (x' := { x with asked := (k : Int) }) (s' := s) (w' := w) rfl rfl (by omega) rfl H1.hs H1.hw fun σ2 H2 M2 => xmsg_spec H2 _ _ ⟨_, _, _, _, _, _, _, _, _, _, _, rfl, ?_⟩
          have P2 : OwnM σ0 σ2 oa on oc (ys ++ zs) := Own.ch P1 fun b hb hb' => M2.same b (fun e => H0.nq (by rw [← e]; exact hb)) hb'
          refine Own.app Msg.cells_length Msg.cells_one P2 (fun b hb => M2.dom b (M1.dom b hb)) rfl (ys := [x.msg L4.z 6 k]) (by simp; rfl) rfl (by show (2 * (on + 1) + 768) * 56 ≤ _; omega) (by show on + 1 ≤ _; omega) fun a3 n3 c3 σ3 P3 k3 => hopI ?_
          rw [wrap_succ (by omega)]
          have M3 : Mq q σ0 σ3 := ⟨fun b hb hb' => (k3.same b hb').trans ((M1.trans M2).same b hb hb'), fun b hb => k3.dom b ((M1.trans M2).dom b hb)⟩
          refine xloop hav H0 hh hh0 hwn n (k + 1) a3 n3 c3 (k : Int) _ σ3 (by omega) (H2.keptB (x0 := x) H0.nq H0.hs H0.hw k3) P3 (by simp; omega) M3 fun σ4 a4 n4 c4 H4 P4 M4 => hK σ4 a4 n4 c4 H4 ?_ M4
          simpa using P4
        · rw [if_neg (by rw [e]; simp), if_neg (by rw [e]; simp)] at hK
          rw [wrap_succ (by omega)]
          refine xloop hav H0 hh hh0 hwn n (k + 1) oa on oc asked _ σ1 (by omega) H1 P1 (by simp; omega) M1 fun σ4 a4 n4 c4 H4 P4 M4 => hK σ4 a4 n4 c4 H4 ?_ M4
          simpa using P4
      refine ⟨_, rd H1.hq rfl, cond_i (fun e => hopI (j31 _ ?_)) (fun e => hopI (j31 _ ?_))⟩
      · rw [show ((k : Int) == x.owner) = true from e]; rfl
      · rw [show ((k : Int) == x.owner) = false from e]; rfl
    have j29 : ∀ t : Bool, t = (x.waits.contains (k : Int) && (k : Int) != x.owner) → corralref18_Home_Take.j29 K (corralref18_Home_Take.l26 K (n + 1)) q 0 r_ oa on oc (k : Int) t σ := by
      intro t ht
      refine cond_i (fun e => ?_) (fun e => hopI (j30 oa on oc [] σ H (by simpa using O) (by simp) M ?_))
      · refine xmsg_spec H _ _ ⟨_, _, _, _, _, _, _, _, _, _, _, rfl, Own.app Msg.cells_length Msg.cells_one O M.dom rfl (ys := [x.msg L4.z 4 k]) (by simp; rfl) rfl (by show (2 * (on + 1) + 768) * 56 ≤ _; omega) (by show on + 1 ≤ _; omega) fun a3 n3 c3 σ3 P3 k3 => hopI ?_⟩
        have M3 : Mq q σ0 σ3 := ⟨fun b hb hb' => (k3.same b hb').trans (M.same b hb hb'), fun b hb => k3.dom b (M.dom b hb)⟩
        refine j30 a3 n3 c3 [x.msg L4.z 4 k] σ3 (H.keptB (x0 := x) H0.nq H0.hs H0.hw k3) P3 (by simp) M3 ?_
        rw [← ht, if_pos e]
      · rw [← ht, if_neg (by rw [e]; simp)]
    refine cond_i (fun e => ⟨_, rd H.hq rfl, hopI (j29 _ ?_)⟩) (fun e => hopI (j29 _ ?_))
    · rw [show x.waits.contains (k : Int) = true from e]; rfl
    · rw [show x.waits.contains (k : Int) = false from e]; rfl

theorem wo_len (l : List Int) (v : Int) : (wo l v).length ≤ l.length := List.length_filter_le _ _

theorem getm_tail {σ0 : Store} {x : XM L4} {s w : SL} {r_ : Int} (hav : q ∈ av) (hdom : ∀ b ∈ av, σ0 b ≠ none) (H0 : XA av σ0 q x s w) (hh : x.harts.toNat ≤ 4) (hh0 : 0 ≤ x.harts) (hwn : x.waits.length ≤ 10) {K : Value → Store → Prop} (hK : OutX av q σ0 (x.getm L4.z r_) K) :
    corralref18_Home_Take.l26 K (x.harts.toNat + 1) q 0 r_ none 0 0 0 σ0 := by
  unfold XM.getm at hK
  simp only at hK
  refine xloop hav H0 hh hh0 (by omega) x.harts.toNat 0 none 0 0 x.asked [] σ0 (by omega) H0 (Own.nil _ _ _ _) (by simp) (Mq.refl _ _) fun σ1 oa on oc H1 P1 M1 => ?_
  rw [List.nil_append] at P1
  generalize XM.loop L4.z x r_ x.harts.toNat 0 x.asked = t at H1 P1 hK
  have j35 : ∀ (x2 : XM L4) (w2 : SL) (σ2 : Store), XA av σ2 q x2 s w2 → OwnM σ0 σ2 oa on oc t.2 → Mq q σ0 σ2 → OutX av q σ0 (if (x2.waits.length == 0 && decide (x2.asked < 0)) = true then x2.give L4.z else (x2, t.2)) K →
      corralref18_Home_Take.j35 K q 0 oa on oc σ2 := by
    intro x2 w2 σ2 H2 P2 M2 hK2
    have e0 := H2.hw.1
    refine ⟨_, _, _, rd H2.hq rfl, cond_i (fun e => ⟨_, rd H2.hq rfl, cond_i (fun e' => give_spec hav H2 ?_) (fun e' => ?_)⟩) (fun e => ?_)⟩
    · have e2 : (x2.waits.length == 0) = true := by rw [← e0]; simpa using e
      rw [e2, e'] at hK2
      exact OutX.ch (fun σ' a n c s w H M O => ⟨_, _, _, rfl, hK2 σ' a n c s w H M O⟩) M2
    · have e2 : (x2.waits.length == 0) = true := by rw [← e0]; simpa using e
      rw [e2, e'] at hK2
      exact hK2 σ2 oa on oc s w2 H2 M2 P2
    · have e2 : (x2.waits.length == 0) = false := by rw [← e0]; simpa using e
      rw [e2] at hK2
      exact hK2 σ2 oa on oc s w2 H2 M2 P2
  refine ⟨_, rd H1.hq rfl, cond_i (fun e => ?_) (fun e => hopI (j35 _ w σ1 H1 P1 M1 ?_))⟩
  · have e' : x.owner ≥ 0 := by simpa using e
    simp only [e', if_true] at hK
    refine ⟨_, _, _, rd H1.hq rfl, _, rd H1.hq rfl, without_spec H1.hw.isI (by show x.waits.length ≤ 1000; omega) x.owner fun σ2 a n c O2 k2 => ⟨_, _, _, rfl, ?_⟩⟩
    have H2 := H1.kept k2
    have d0 : ∀ b ∈ av, σ1 b ≠ none := fun b hb => M1.dom b (hdom b hb)
    refine H2.store hav (x' := { x with asked := t.1, waits := wo x.waits x.owner }) (s' := s) (w' := ⟨a, n, c⟩) rfl rfl (by omega) rfl H2.hs (IsA.own O2 d0) fun σ3 H3 M3 => hopI (j35 _ _ σ3 H3 ?_ (M1.trans ((Kept.mq k2 q).trans M3)) hK)
    have P2 : OwnM σ0 σ2 oa on oc t.2 := Own.ch P1 fun b _ hb => k2.same b hb
    exact Own.ch P2 fun b hb hb' => M3.same b (fun e => H0.nq (by rw [← e]; exact hb)) hb'
  · have e' : ¬ x.owner ≥ 0 := by simpa using e
    simp only [e', if_false] at hK
    exact hK

theorem xtake_spec {σ : Store} {x : XM L4} {s w : SL} (hav : q ∈ av) (hdom : ∀ b ∈ av, σ b ≠ none) (H : XA av σ q x s w) (hh0 : 0 ≤ x.harts) (hh : x.harts ≤ 4) (hsn : x.sh.length ≤ 10) (hwn : x.waits.length ≤ 10) (m : Msg L4) {K : Value → Store → Prop}
    (hK : OutX av q σ (x.take L4.z m) K) : Spec Pr F.corralref18_Home_Take [.pointer (some ⟨q, 0, none⟩), m.agg] σ K := by
  unfold XM.take at hK
  refine corralref18_Home_Take.ok (cond_i (fun e1 => ?_) (fun e1 => cond_i (fun e2 => ?_) (fun e2 => cond_i (fun e3 => ?_) (fun e3 => cond_i (fun e10 => ?_) (fun e10 => cond_i (fun e11 => ?_) (fun e11 => hopI ?_))))))
  · -- GetS
    rw [if_pos e1] at hK
    simp only at hK
    refine H.store hav (x' := { x with busy := true }) (s' := s) (w' := w) rfl rfl (by omega) rfl H.hs H.hw fun σ1 H1 M1 =>
      H1.store hav (x' := { x with busy := true, kind := m.kind }) (s' := s) (w' := w) rfl rfl (by omega) rfl H1.hs H1.hw fun σ2 H2 M2 =>
      H2.store hav (x' := { x with busy := true, kind := m.kind, frm := m.frm }) (s' := s) (w' := w) rfl rfl (by omega) rfl H2.hs H2.hw fun σ3 H3 M3 => ⟨_, rd H3.hq rfl, ?_⟩
    have M := M1.trans (M2.trans M3)
    have j8 : ∀ t : Bool, t = (decide (x.owner ≥ 0) && x.owner != m.frm) → corralref18_Home_Take.j8 K q 0 m.frm t σ3 := by
      intro t ht
      rw [← ht] at hK
      refine cond_i (fun e => ?_) (fun e => hopI ?_)
      · rw [if_pos e] at hK
        exact ⟨_, rd H3.hq rfl, H3.store hav (x' := { x with busy := true, kind := m.kind, frm := m.frm, asked := x.owner }) (s' := s) (w' := w) rfl rfl (by omega) rfl H3.hs H3.hw fun σ4 H4 M4 => ⟨_, rd H4.hq rfl, xmsg_spec H4 _ _ ⟨_, _, _, _, _, _, _, _, _, _, _, rfl, newMsg (x.msg L4.z 5 x.owner) (OutX.one hK H4 (M.trans M4))⟩⟩⟩
      · rw [if_neg (by rw [e]; simp)] at hK
        refine H3.store hav (x' := { x with busy := true, kind := m.kind, frm := m.frm, owner := -1 }) (s' := s) (w' := w) rfl rfl (by omega) rfl H3.hs H3.hw fun σ4 H4 M4 => ⟨_, _, _, rd H4.hq rfl, without_spec H4.hs.isI (by show x.sh.length ≤ 1000; omega) m.frm fun σ5 a n c O5 k5 => ⟨_, _, _, rfl, ?_⟩⟩
        have H5 := H4.kept k5
        have M5 := M.trans (M4.trans (Kept.mq k5 q))
        have o5 : n = (wo x.sh m.frm).length := O5.1
        refine cond_i (fun e5 => ?_) (fun e5 => ?_)
        · rw [if_pos (by rw [← o5]; simpa using e5)] at hK
          refine H5.store hav (x' := { x with busy := true, kind := m.kind, frm := m.frm, owner := m.frm }) (s' := s) (w' := w) rfl rfl (by omega) rfl H5.hs H5.hw fun σ6 H6 M6 =>
            H6.store hav (x' := { x with busy := true, kind := m.kind, frm := m.frm, owner := m.frm, sh := [] }) (s' := ⟨none, 0, 0⟩) (w' := w) rfl rfl (by omega) rfl (IsA.nil _ _) H6.hw fun σ7 H7 M7 => ⟨_, _, _, _, rds H7.hq (by show 6 ≤ 25; omega) rfl, xdat_spec H7 x.mem _ _ fun σ' a n c O k => ⟨_, _, _, rfl, ?_⟩⟩
          exact OutX.one hK H7 (M5.trans (M6.trans M7)) σ' a n c O k
        · rw [if_neg (by rw [← o5]; simpa using e5)] at hK
          refine ⟨_, _, _, rd H5.hq rfl, ints_spec H5.hs.isI (by show x.sh.length ≤ 1000; omega) fun σ6 a6 n6 c6 O6 k6 => ⟨_, _, _, rfl, srt_gen (by show x.sh.length ≤ 100; omega) m.frm (fun σ7 a7 n7 c7 O7 k7 => ⟨_, _, _, rfl, ?_⟩) O6 k6⟩⟩
          have H7 := H5.kept k7
          have M7 := M5.trans (Kept.mq k7 q)
          have dv : ∀ b ∈ av, σ5 b ≠ none := fun b hb => M5.dom b (hdom b hb)
          refine H7.store hav (x' := { x with busy := true, kind := m.kind, frm := m.frm, owner := -1, sh := sortF (x.sh ++ [m.frm]) }) (s' := ⟨a7, n7, c7⟩) (w' := w) rfl rfl (by omega) rfl (IsA.own O7 dv) H7.hw fun σ8 H8 M8 => ⟨_, _, _, _, rds H8.hq (by show 6 ≤ 25; omega) rfl, xdat_spec H8 x.mem _ _ fun σ' a n c O k => ⟨_, _, _, rfl, ?_⟩⟩
          exact OutX.one hK H8 (M7.trans M8) σ' a n c O k
    refine cond_i (fun e => ⟨_, rd H3.hq rfl, hopI (j8 _ ?_)⟩) (fun e => hopI (j8 _ ?_))
    · rw [show decide (x.owner ≥ 0) = true from e]; rfl
    · rw [show decide (x.owner ≥ 0) = false from e]; rfl
  · -- GetM
    rw [if_neg (by rw [show (m.kind == 1) = false from e1]; simp), if_pos e2] at hK
    refine H.store hav (x' := { x with busy := true }) (s' := s) (w' := w) rfl rfl (by omega) rfl H.hs H.hw fun σ1 H1 M1 =>
      H1.store hav (x' := { x with busy := true, kind := m.kind }) (s' := s) (w' := w) rfl rfl (by omega) rfl H1.hs H1.hw fun σ2 H2 M2 =>
      H2.store hav (x' := { x with busy := true, kind := m.kind, frm := m.frm }) (s' := s) (w' := w) rfl rfl (by omega) rfl H2.hs H2.hw fun σ3 H3 M3 =>
      H3.store hav (x' := { x with busy := true, kind := m.kind, frm := m.frm, back := zmsg L4.z }) (s' := s) (w' := w) rfl rfl (by omega) rfl H3.hs H3.hw fun σ4 H4 M4 => ⟨_, rd H4.hq rfl, ?_⟩
    refine H4.store hav (x' := { x with busy := true, kind := m.kind, frm := m.frm, back := zmsg L4.z, own := x.owner == m.frm }) (s' := s) (w' := w) rfl rfl (by omega) rfl H4.hs H4.hw fun σ5 H5 M5 => ⟨_, _, _, rd H5.hq rfl, without_spec H5.hs.isI (by show x.sh.length ≤ 1000; omega) m.frm fun σ6 a n c O6 k6 => ⟨_, _, _, rfl, ?_⟩⟩
    have M5' := M1.trans (M2.trans (M3.trans (M4.trans M5)))
    have dv : ∀ b ∈ av, σ5 b ≠ none := fun b hb => M5'.dom b (hdom b hb)
    have H6 := H5.kept k6
    have hwl := wo_len x.sh m.frm
    refine H6.store hav (x' := { x with busy := true, kind := m.kind, frm := m.frm, back := zmsg L4.z, own := x.owner == m.frm, waits := wo x.sh m.frm }) (s' := s) (w' := ⟨a, n, c⟩) rfl rfl (by omega) rfl H6.hs (IsA.own O6 dv) fun σ7 H7 M7 => hopI ⟨x.harts.toNat + 1, ?_⟩
    have M := M5'.trans ((Kept.mq k6 q).trans M7)
    have hx1 : (wo x.sh m.frm).length ≤ 10 := by omega
    generalize he : ({ x with busy := true, kind := m.kind, frm := m.frm, back := zmsg L4.z, own := x.owner == m.frm, waits := wo x.sh m.frm } : XM L4) = x1 at H7 hK
    have g1 : x1.harts = x.harts := by rw [← he]
    have g2 : x1.waits.length ≤ 10 := by rw [← he]; exact hx1
    have fin := getm_tail (r_ := m.frm) hav (fun b hb => M.dom b (hdom b hb)) H7 (by rw [g1]; omega) (by rw [g1]; exact hh0) g2 (K := K) (OutX.ch hK M)
    rw [g1] at fin
    exact fin
  · -- Put
    rw [if_neg (by rw [show (m.kind == 1) = false from e1]; simp), if_neg (by rw [show (m.kind == 2) = false from e2]; simp), if_pos e3] at hK
    simp only at hK
    have j43 : ∀ (x1 : XM L4) (σ1 : Store), XA av σ1 q x1 s w → Mq q σ σ1 → x1.sh = x.sh → x1.line = x.line → OutX av q σ ({ x1 with sh := wo x1.sh m.frm }, [x.msg L4.z 9 m.frm]) K → corralref18_Home_Take.j43 K q 0 m.frm σ1 := by
      intro x1 σ1 H1 M1 es el hK1
      refine ⟨_, _, _, rd H1.hq rfl, without_spec H1.hs.isI (by rw [es]; omega) m.frm fun σ2 a n c O2 k2 => ⟨_, _, _, rfl, ?_⟩⟩
      have H2 := H1.kept k2
      refine H2.store hav (x' := { x1 with sh := wo x1.sh m.frm }) (s' := ⟨a, n, c⟩) (w' := w) rfl rfl (by omega) rfl (IsA.own O2 fun b hb => M1.dom b (hdom b hb)) H2.hw fun σ3 H3 M3 => xmsg_spec H3 _ _ ⟨_, _, _, _, _, _, _, _, _, _, _, rfl, newMsg (x1.msg L4.z 9 m.frm) ?_⟩
      · have : x.msg L4.z 9 m.frm = x1.msg L4.z 9 m.frm := by unfold XM.msg; rw [el]
        rw [this] at hK1
        exact OutX.one hK1 H3 (M1.trans ((Kept.mq k2 q).trans M3))
    refine ⟨_, rd H.hq rfl, cond_i (fun e => ?_) (fun e => hopI (j43 x σ H (Mq.refl _ _) rfl rfl ?_))⟩
    · rw [show (x.owner == m.frm) = true from e] at hK
      refine cond_i (fun e6 => H.store hav (x' := { x with mem := m.data }) (s' := s) (w' := w) rfl rfl (by omega) rfl H.hs H.hw fun σ1 H1 M1 => hopI (H1.store hav (x' := { x with mem := m.data, owner := -1 }) (s' := s) (w' := w) rfl rfl (by omega) rfl H1.hs H1.hw fun σ2 H2 M2 => hopI (j43 _ σ2 H2 (M1.trans M2) rfl rfl ?_)))
        (fun e6 => hopI (H.store hav (x' := { x with owner := -1 }) (s' := s) (w' := w) rfl rfl (by omega) rfl H.hs H.hw fun σ2 H2 M2 => hopI (j43 _ σ2 H2 M2 rfl rfl ?_)))
      · rw [show m.dirty = true from e6] at hK; exact hK
      · rw [show m.dirty = false from e6] at hK; exact hK
    · rw [show (x.owner == m.frm) = false from e] at hK; exact hK
  · -- Ack
    rw [if_neg (by rw [show (m.kind == 1) = false from e1]; simp), if_neg (by rw [show (m.kind == 2) = false from e2]; simp), if_neg (by rw [show (m.kind == 3) = false from e3]; simp), if_pos e10] at hK
    simp only at hK
    refine ⟨_, _, _, rd H.hq rfl, without_spec H.hw.isI (by omega) m.frm fun σ1 a n c O1 k1 => ⟨_, _, _, rfl, ?_⟩⟩
    have H1 := H.kept k1
    refine H1.store hav (x' := { x with waits := wo x.waits m.frm }) (s' := s) (w' := ⟨a, n, c⟩) rfl rfl (by omega) rfl H1.hs (IsA.own O1 hdom) fun σ2 H2 M2 => ⟨_, _, _, rd H2.hq rfl, ?_⟩
    have M := (Kept.mq k1 q).trans M2
    have e0 : n = (wo x.waits m.frm).length := O1.1
    refine cond_i (fun e => ⟨_, rd H2.hq rfl, cond_i (fun e' => give_spec hav H2 ?_) (fun e' => ?_)⟩) (fun e => ?_)
    · have e2 : ((wo x.waits m.frm).length == 0) = true := by rw [← e0]; simpa using e
      rw [e2, show decide (x.asked < 0) = true from e'] at hK
      exact OutX.ch (fun σ' a n c s w H M O => ⟨_, _, _, rfl, hK σ' a n c s w H M O⟩) M
    · have e2 : ((wo x.waits m.frm).length == 0) = true := by rw [← e0]; simpa using e
      rw [e2, show decide (x.asked < 0) = false from e'] at hK
      exact OutX.nil hK H2 M
    · have e2 : ((wo x.waits m.frm).length == 0) = false := by rw [← e0]; simpa using e
      rw [e2] at hK
      exact OutX.nil hK H2 M
  · -- Back
    rw [if_neg (by rw [show (m.kind == 1) = false from e1]; simp), if_neg (by rw [show (m.kind == 2) = false from e2]; simp), if_neg (by rw [show (m.kind == 3) = false from e3]; simp), if_neg (by rw [show (m.kind == 10) = false from e10]; simp), if_pos e11] at hK
    simp only at hK
    refine H.store hav (x' := { x with asked := -1 }) (s' := s) (w' := w) rfl rfl (by omega) rfl H.hs H.hw fun σ1 H1 M1 => ⟨_, rd H1.hq rfl, cond_i (fun e => ?_) (fun e => ?_)⟩
    · rw [if_pos (show (x.kind == 2) = true from e)] at hK
      refine H1.store hav (x' := { x with asked := -1, back := m }) (s' := s) (w' := w) rfl rfl (by omega) rfl H1.hs H1.hw fun σ2 H2 M2 => ⟨_, _, _, rd H2.hq rfl, ?_⟩
      have e0 : w.n = x.waits.length := H.hw.1
      refine cond_i (fun e => give_spec hav H2 ?_) (fun e => ?_)
      · rw [if_pos (by rw [← e0]; simpa using e)] at hK
        exact OutX.ch (fun σ' a n c s w H M O => ⟨_, _, _, rfl, hK σ' a n c s w H M O⟩) (M1.trans M2)
      · rw [if_neg (by rw [← e0]; simpa using e)] at hK
        exact OutX.nil hK H2 (M1.trans M2)
    · rw [if_neg (by rw [show (x.kind == 2) = false from e]; simp)] at hK
      have hsl : x.sh.length ≤ 10 := hsn
      -- behind the first list that is sorted
      have tail : ∀ (σ2 : Store) (a2 : Option Addr) (n2 c2 : Nat), OwnI σ1 σ2 a2 n2 c2 (sortF (x.sh ++ [x.frm])) → Kept σ1 σ1 σ2 →
          StoreK σ2 q (0 + 7) 1 [.slice a2 n2 c2] fun σ3 =>
            cond m.dirty
              (Spec Pr F.corralref18_Home_data [.pointer (some ⟨q, 0, none⟩), m.data.agg, .bool false, .bool false] σ3 fun v σ_21 => ∃ A : Option Addr, ∃ N : Nat, ∃ C : Nat, v = .slice A N C ∧ K (.slice A N C) σ_21)
              (StoreK σ3 q (0 + 6) 1 [.int .i64 (-1)] fun σ_22 =>
                cond m.has
                (∃ A : Option Addr, ∃ N : Nat, ∃ C : Nat, cellAt σ_22 q (0 + 7) = some (.slice A N C) ∧
                  Spec Pr F.corralref_Ints [.slice A N C] σ_22 fun v σ_23 => ∃ A : Option Addr, ∃ N : Nat, ∃ C : Nat, v = .slice A N C ∧
                  AppK 3 1 8 [.int .i64 0] σ_23 A N C [.int .i64 m.frm] 1 fun A N C σ_24 =>
                  Spec Pr F.corralref_Sorted [.slice A N C] σ_24 fun v σ_25 => ∃ A : Option Addr, ∃ N : Nat, ∃ C : Nat, v = .slice A N C ∧
                  StoreK σ_25 q (0 + 7) 1 [.slice A N C] fun σ_26 =>
                  Spec Pr F.corralref18_Home_data [.pointer (some ⟨q, 0, none⟩), m.data.agg, .bool false, .bool false] σ_26 fun v σ_27 => ∃ A : Option Addr, ∃ N : Nat, ∃ C : Nat, v = .slice A N C ∧ K (.slice A N C) σ_27)
                (∃ t0 t1 t2 t3 : Int, cellsAt σ_22 q (0 + 2) 4 = some [.int .u32 t0, .int .u32 t1, .int .u32 t2, .int .u32 t3] ∧
                  Spec Pr F.corralref18_Home_data [.pointer (some ⟨q, 0, none⟩), .agg #[.int .u32 t0, .int .u32 t1, .int .u32 t2, .int .u32 t3], .bool false, .bool false] σ_22 fun v σ_28 => ∃ A : Option Addr, ∃ N : Nat, ∃ C : Nat, v = .slice A N C ∧ K (.slice A N C) σ_28)) := by
        intro σ2 a2 n2 c2 O2 k2
        have H2 := H1.kept k2
        have d1 : ∀ b ∈ av, σ1 b ≠ none := fun b hb => M1.dom b (hdom b hb)
        refine H2.store hav (x' := { x with asked := -1, sh := sortF (x.sh ++ [x.frm]) }) (s' := ⟨a2, n2, c2⟩) (w' := w) rfl rfl (by omega) rfl (IsA.own O2 d1) H2.hw fun σ3 H3 M3 => ?_
        have M3' := M1.trans ((Kept.mq k2 q).trans M3)
        have d3 : ∀ b ∈ av, σ3 b ≠ none := fun b hb => M3'.dom b (hdom b hb)
        have sl : (sortF (x.sh ++ [x.frm])).length ≤ 20 := by
          have : ∀ (l ys : List Int), (l.foldl ins ys).length ≤ ys.length + l.length := by
            intro l
            induction l with
            | nil => intro ys; simp
            | cons a l ih => intro ys; have := ih (ins ys a); have := ins_len a ys; rw [List.foldl_cons, List.length_cons]; omega
          have := this (x.sh ++ [x.frm]) []
          unfold sortF
          simp at this ⊢
          omega
        refine cond_i (fun ed => xdat_spec H3 m.data _ _ fun σ' a n c O k => ⟨_, _, _, rfl, ?_⟩) (fun ed => ?_)
        · rw [if_pos ed] at hK; exact OutX.one hK H3 M3' σ' a n c O k
        rw [if_neg (by rw [ed]; simp)] at hK
        refine H3.store hav (x' := { x with asked := -1, sh := sortF (x.sh ++ [x.frm]), owner := -1 }) (s' := ⟨a2, n2, c2⟩) (w' := w) rfl rfl (by omega) rfl H3.hs H3.hw fun σ4 H4 M4 => ?_
        have M4' := M3'.trans M4
        have d4 : ∀ b ∈ av, σ4 b ≠ none := fun b hb => M4'.dom b (hdom b hb)
        refine cond_i (fun eh => ?_) (fun eh => ⟨_, _, _, _, rds H4.hq (by show 6 ≤ 25; omega) rfl, xdat_spec H4 x.mem _ _ fun σ' a n c O k => ⟨_, _, _, rfl, ?_⟩⟩)
        · rw [if_pos eh] at hK
          refine ⟨_, _, _, rd H4.hq rfl, ints_spec H4.hs.isI (by show (sortF (x.sh ++ [x.frm])).length ≤ 1000; omega) fun σ5 a5 n5 c5 O5 k5 => ⟨_, _, _, rfl, srt_gen (by show (sortF (x.sh ++ [x.frm])).length ≤ 100; omega) m.frm (fun σ6 a6 n6 c6 O6 k6 => ⟨_, _, _, rfl, ?_⟩) O5 k5⟩⟩
          have H6 := H4.kept k6
          refine H6.store hav (x' := { x with asked := -1, sh := sortF (sortF (x.sh ++ [x.frm]) ++ [m.frm]), owner := -1 }) (s' := ⟨a6, n6, c6⟩) (w' := w) rfl rfl (by omega) rfl (IsA.own O6 d4) H6.hw fun σ7 H7 M7 => xdat_spec H7 m.data _ _ fun σ' a n c O k => ⟨_, _, _, rfl, ?_⟩
          exact OutX.one hK H7 (M4'.trans ((Kept.mq k6 q).trans M7)) σ' a n c O k
        · rw [if_neg (by rw [eh]; simp)] at hK
          exact OutX.one hK H4 M4' σ' a n c O k
      refine ⟨_, _, _, rd H1.hq rfl, _, rd H1.hq rfl, ints_spec H1.hs.isI (by show x.sh.length ≤ 1000; omega) fun σ2 a2 n2 c2 O2 k2 => ⟨_, _, _, rfl, ?_, ?_⟩, rds H1.hq (by show 8 ≤ 25; omega) rfl, ints_spec H1.hs.isI (by show x.sh.length ≤ 1000; omega) fun σ2 a2 n2 c2 O2 k2 => ⟨_, _, _, rfl, ?_⟩⟩
      · exact rds (H1.kept k2).hq (by show 11 ≤ 25; omega) rfl
      · exact srt_gen (by show x.sh.length ≤ 100; omega) x.frm (fun σ3 a3 n3 c3 O3 k3 => ⟨_, _, _, rfl, tail σ3 a3 n3 c3 O3 k3⟩) O2 k2
      · exact srt_gen (by show x.sh.length ≤ 100; omega) x.frm (fun σ3 a3 n3 c3 O3 k3 => ⟨_, _, _, rfl, tail σ3 a3 n3 c3 O3 k3⟩) O2 k2
  · rw [if_neg (by rw [show (m.kind == 1) = false from e1]; simp), if_neg (by rw [show (m.kind == 2) = false from e2]; simp), if_neg (by rw [show (m.kind == 3) = false from e3]; simp), if_neg (by rw [show (m.kind == 10) = false from e10]; simp), if_neg (by rw [show (m.kind == 11) = false from e11]; simp)] at hK
    exact H.store hav (x' := { x with busy := false }) (s' := s) (w' := w) rfl rfl (by omega) rfl H.hs H.hw fun σ1 H1 M1 => hK.nil H1 M1

end Go.Ev.Hom
