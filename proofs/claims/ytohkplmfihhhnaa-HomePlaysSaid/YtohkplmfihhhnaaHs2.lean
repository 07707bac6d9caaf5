/-
  The home's functions that send keep to the plain ones.
  Conditions: none.
-/
import Derived.Test.YtohkplmfihhhnaaHs
set_option linter.unusedVariables false
namespace Go.Ev.Hom
open Go

theorem Msg.cells_length (m : Msg L4) : m.cells.length = 11 := rfl
theorem Msg.cells_one (m : Msg L4) : m.cells.all one = true := rfl

abbrev OwnM (σ0 σ : Store) (a : Option Addr) (n c : Nat) (l : List (Msg L4)) : Prop := Own Msg.cells 11 σ0 σ a n c l

theorem Md.kept {p s v : Nat} {σ0 σ σ' : Store} (h : Md p s v σ0 σ) (k : Kept σ0 σ σ') : Md p s v σ0 σ' :=
  ⟨fun b h1 h2 h3 h4 => (k.same b h4).trans (h.same b h1 h2 h3 h4), fun b hb => k.dom b (h.dom b hb)⟩

theorem Kept.md' {σ σ' : Store} (h : Kept σ σ σ') (p s v : Nat) : Md p s v σ σ' := ⟨fun b _ _ _ h4 => h.same b h4, h.dom⟩
theorem At.kept' {σ σ' : Store} {p s v : Nat} {h : HM L4} (H : At σ p s v h) (k : Kept σ σ σ') : At σ' p s v h := H.kept k H.np H.ns H.nv

/-- One message in a new slice. -/
theorem newMsg {σ : Store} (m : Msg L4) {K : Value → Store → Prop} (hK : ∀ σ' a n c, OwnM σ σ' a n c [m] → Kept σ σ σ' → K (.slice a n c) σ') :
    New σ ⟨33, m.cells, (0, 0)⟩ fun b σ1 => K (.slice (some ⟨b, 0, none⟩) 1 1) σ1 :=
  fun b hb => hK _ _ _ _ (Own.fresh Msg.cells_length hb 1 rfl (by simp)) (newKept _ hb)

theorem hand_spec {σ : Store} {p s v : Nat} {h : HM L4} (H : At σ p s v h) (d : L4) (dirty alone : Bool) {K : Value → Store → Prop}
    (hK : ∀ σ' a n c, OwnM σ σ' a n c [h.hand d dirty alone] → Kept σ σ σ' → K (.slice a n c) σ') :
    Spec Pr F.home_Home_hand [.pointer (some ⟨p, 0, none⟩), d.agg, .bool dirty, .bool alone] σ K :=
  home_Home_hand.ok ⟨_, rd H.hp rfl, to_spec H _ _ ⟨_, _, _, _, _, _, _, _, _, _, _, rfl, newMsg (h.hand d dirty alone) hK⟩⟩

theorem zeroN_false (n : Nat) : zeroN [.bool false] n = bc (List.replicate n false) := by
  induction n with
  | zero => rfl
  | succ n ih => simp only [zeroN, bc, List.replicate_succ, List.flatten_cons, List.map_cons] at *; rw [ih]; rfl

theorem bc_length (l : List Bool) : (bc l).length = l.length := by simp [bc]
theorem bc_one (l : List Bool) : (bc l).all one = true := by simp [bc, one]

theorem At.clearS {σ : Store} {p s v : Nat} {h : HM L4} (H : At σ p s v h) {K : Store → Prop}
    (hK : ∀ σ', At σ' p s v { h with sh := List.replicate h.sh.length false } → Md p s v σ σ' → K σ') :
    PutK σ (some ⟨s, 0, none⟩) (h.sh.length * 1) (zeroN [.bool false] h.sh.length) K := by
  refine ⟨fun h0 => ?_, fun h0 => ?_⟩
  · refine hK σ ⟨?_, ?_, H.hv, H.sv, H.sp, H.vp⟩ (Md.refl _ _ _ _)
    · rw [H.hp, List.length_replicate]; rfl
    · rw [H.hs]
      have : h.sh = [] := List.eq_nil_of_length_eq_zero (by omega)
      rw [this]; rfl
  · refine st H.hs rfl (by rw [zeroN_false, bc_length, List.length_replicate, Nat.mul_one]) (by rw [zeroN_false]; exact bc_one _) (by show 0 + h.sh.length * 1 ≤ (bc h.sh).length; rw [bc_length]; omega) (hK _ ⟨?_, ?_, ?_, H.sv, H.sp, H.vp⟩ ⟨?_, ?_⟩)
    · rw [set_diff H.sp.symm, H.hp, List.length_replicate]; rfl
    · rw [set_same]
      refine congrArg (fun l => some (Blk.mk 4 l (0, 0))) ?_
      show spliceL (bc h.sh) 0 (zeroN [.bool false] h.sh.length) = _
      rw [zeroN_false, spliceL_eq _ _ _ (by rw [bc_length, bc_length, List.length_replicate]; omega), List.take_zero, List.nil_append, List.drop_of_length_le (by rw [bc_length, bc_length, List.length_replicate]; omega), List.append_nil]
    · rw [set_diff H.sv.symm]; exact H.hv
    · intro b _ hb _ _; exact set_diff hb
    · intro b hb; by_cases e : b = s
      · subst e; simp
      · rw [set_diff e]; exact hb

/-- What a function of the home's that sends answers with. -/
def Out (p s v : Nat) (σ : Store) (r : HM L4 × List (Msg L4)) (K : Value → Store → Prop) : Prop :=
  ∀ σ' a n c, At σ' p s v r.1 → Md p s v σ σ' → OwnM σ σ' a n c r.2 → K (.slice a n c) σ'

theorem Out.md {p s v : Nat} {σ σ' : Store} {r : HM L4 × List (Msg L4)} {K : Value → Store → Prop} (h : Out p s v σ r K) (m : Md p s v σ σ') : Out p s v σ' r K :=
  fun σ2 a n c H m2 O => h σ2 a n c H (m.trans m2) (Own.base O m.dom)

theorem Out.one {p s v : Nat} {σ σ1 : Store} {h : HM L4} {l : List (Msg L4)} {K : Value → Store → Prop} (hK : Out p s v σ (h, l) K) (H : At σ1 p s v h) (M : Md p s v σ σ1) :
    ∀ σ' a n c, OwnM σ1 σ' a n c l → Kept σ1 σ1 σ' → K (.slice a n c) σ' :=
  fun σ' a n c O k => hK σ' a n c (H.kept' k) (M.trans (Kept.md' k p s v)) (Own.base O M.dom)

theorem Out.nil {p s v : Nat} {σ σ1 : Store} {h : HM L4} {K : Value → Store → Prop} (hK : Out p s v σ (h, []) K) (H : At σ1 p s v h) (M : Md p s v σ σ1) : K (.slice none 0 0) σ1 :=
  hK σ1 none 0 0 H M (Own.nil _ _ _ _)

theorem owned_spec {σ : Store} {p s v : Nat} {h : HM L4} (H : At σ p s v h) (W : h.inv.length ≤ 4) {K : Value → Store → Prop} (hK : Out p s v σ (h.owned L4.z) K) :
    Spec Pr F.home_Home_owned [.pointer (some ⟨p, 0, none⟩)] σ K := by
  unfold HM.owned at hK
  refine home_Home_owned.ok (waits_spec H W ⟨_, rfl, cond_i (fun e => ?_) (fun e => ?_)⟩)
  · rw [if_pos e] at hK; exact hK.nil H (Md.refl _ _ _ _)
  rw [if_neg (by rw [e]; simp)] at hK
  refine ⟨_, rd H.hp rfl, _, rd H.hp rfl, H.store (h' := { h with owner := h.serves }) rfl rfl (by omega) rfl rfl rfl fun σ1 H1 M1 => ⟨_, _, _, rd H1.hp rfl, H1.clearS fun σ2 H2 M2 => ⟨_, rd H2.hp rfl, ?_⟩⟩⟩
  have M := M1.trans M2
  refine cond_i (fun e1 => ⟨_, rd H2.hp rfl, to_spec H2 _ _ ⟨_, _, _, _, _, _, _, _, _, _, _, rfl, newMsg (h.to_ L4.z h.serves 8) ?_⟩⟩) (fun e1 => ⟨_, rd H2.hp rfl, ?_⟩)
  · rw [if_pos e1] at hK; exact hK.one H2 M
  rw [if_neg (by rw [e1]; simp)] at hK
  refine cond_i (fun e2 => ⟨_, _, _, _, rds H2.hp (by show 21 ≤ 24; omega) rfl, _, rd H2.hp rfl, hand_spec H2 h.back.data _ _ fun σ' a n c O k => ⟨_, _, _, rfl, ?_⟩⟩) (fun e2 => ⟨_, _, _, _, rds H2.hp (by show 6 ≤ 24; omega) rfl, hand_spec H2 h.data _ _ fun σ' a n c O k => ⟨_, _, _, rfl, ?_⟩⟩)
  · rw [if_pos e2] at hK; exact hK.one H2 M σ' a n c O k
  · rw [if_neg (by rw [show h.back.has = false from e2]; simp)] at hK; exact hK.one H2 M σ' a n c O k

theorem share_loop {p s v : Nat} {h : HM L4} {r_ : Int} {K : Value → Store → Prop} {σ : Store} (H : At σ p s v h) (hn : h.sh.length ≤ 4) :
    ∀ (r i : Nat) (acc : Bool), i + r = h.sh.length → home_Home_share.j12 K p 0 r_ (HM.aloneF r_ i (h.sh.drop i) acc) σ →
      home_Home_share.l8 K (r + 1) p 0 r_ acc (some ⟨s, 0, none⟩) h.sh.length h.sh.length ((h.sh.length : Nat) : Int) (i : Int) σ
  | 0, i, acc, hi, hK => by
    refine cond_f (by simp; omega) (hopI ?_)
    rw [List.drop_of_length_le (by omega)] at hK; exact hK
  | r + 1, i, acc, hi, hK => by
    rw [List.drop_eq_getElem_cons (by omega)] at hK
    unfold HM.aloneF at hK
    refine cond_t (by simp; omega) (rq (by simp; omega) ⟨_, H.readS (by omega), ?_⟩)
    rw [wrap_succ (by omega)]
    refine cond_i (fun e => cond_i (fun e' => hopI ?_) (fun e' => hopI ?_)) (fun e => hopI ?_) <;> refine share_loop H hn r (i + 1) _ (by omega) ?_
    · rw [e, show (!h.sh[i]) = true from e'] at hK; exact hK
    · rw [e, show (!h.sh[i]) = false from e'] at hK; exact hK
    · rw [e] at hK; exact hK

theorem share_spec {σ : Store} {p s v : Nat} {h : HM L4} (H : At σ p s v h) (W : h.WF) {K : Value → Store → Prop} (hK : Out p s v σ (h.share L4.z) K) :
    Spec Pr F.home_Home_share [.pointer (some ⟨p, 0, none⟩)] σ K := by
  unfold HM.share at hK
  have hl : h.sh.length ≤ 4 := by have := W.sh; have := W.h4; omega
  have hs : h.serves.toNat < h.sh.length := by have := W.sh; have := W.serves; have := W.serves0; omega
  have hs0 := W.serves0
  have key : (h.owner != -1 && h.owner != h.serves) = false → home_Home_share.j3 K p 0 h.serves false σ := by
    intro e
    rw [if_neg (by rw [e]; simp)] at hK
    refine cond_f rfl (hopI (H.store (h' := { h with owner := -1 }) rfl rfl (by omega) rfl rfl rfl fun σ1 H1 M1 => ⟨_, _, _, rd H1.hp rfl, hopI ⟨_, share_loop H1 hl h.sh.length 0 true (Nat.zero_add _) ?_⟩⟩))
    rw [List.drop_zero]
    refine cond_i (fun e1 => ⟨_, _, _, rd H1.hp rfl, H1.store (h' := { h with owner := h.serves }) rfl rfl (by omega) rfl rfl rfl fun σ2 H2 M2 => rq (by simp; omega) (H2.storeS h.serves.toNat hs _ (by omega) fun σ3 H3 M3 => hopI ?_)⟩)
      (fun e1 => ⟨_, _, _, rd H1.hp rfl, rq (by simp; omega) (H1.storeS h.serves.toNat hs _ (by omega) fun σ3 H3 M3 => hopI ?_)⟩)
    · rw [show HM.aloneF h.serves 0 h.sh true = true from e1] at hK ⊢
      exact ⟨_, _, _, _, rds H3.hp (by show 6 ≤ 24; omega) rfl, hand_spec H3 h.data _ _ fun σ' a n c O k => ⟨_, _, _, rfl, Out.one hK H3 (M1.trans (M2.trans M3)) σ' a n c O k⟩⟩
    · rw [show HM.aloneF h.serves 0 h.sh true = false from e1] at hK ⊢
      exact ⟨_, _, _, _, rds H3.hp (by show 6 ≤ 24; omega) rfl, hand_spec H3 h.data _ _ fun σ' a n c O k => ⟨_, _, _, rfl, Out.one hK H3 (M1.trans M3) σ' a n c O k⟩⟩
  refine home_Home_share.ok ⟨_, rd H.hp rfl, _, rd H.hp rfl, cond_i (fun e => ⟨_, rd H.hp rfl, hopI ?_⟩) (fun e => hopI (key ?_))⟩
  · cases e1 : (h.owner != h.serves) with
    | false => exact key (by rw [e1]; simp)
    | true =>
      rw [if_pos (by rw [e1, e]; rfl)] at hK
      exact cond_t rfl ⟨_, rd H.hp rfl, H.store (h' := { h with asked := h.owner }) rfl rfl (by omega) rfl rfl rfl fun σ1 H1 M1 => ⟨_, rd H1.hp rfl, to_spec H1 _ _ ⟨_, _, _, _, _, _, _, _, _, _, _, rfl, newMsg (h.to_ L4.z h.owner 5) (Out.one hK H1 M1)⟩⟩⟩
  · rw [e]; rfl

theorem shared_spec {σ : Store} {p s v : Nat} {h : HM L4} (H : At σ p s v h) (m : Msg L4) (hs : 0 ≤ h.serves ∧ h.serves.toNat < h.sh.length) (ho : m.dirty = false → m.has = true → 0 ≤ h.owner ∧ h.owner.toNat < h.sh.length) {K : Value → Store → Prop} (hK : Out p s v σ (h.shared m) K) :
    Spec Pr F.home_Home_shared [.pointer (some ⟨p, 0, none⟩), m.agg] σ K := by
  unfold HM.shared at hK
  refine home_Home_shared.ok ⟨_, _, _, rd H.hp rfl, _, rd H.hp rfl, rq (by simp; omega) (ptrI (H.storeS h.serves.toNat hs.2 true (by simp) fun σ1 H1 M1 => ⟨_, _, _, _, rds H1.hp (by show 6 ≤ 24; omega) rfl, ?_⟩))⟩
  refine cond_i (fun e => hopI (cond_f (by rw [e]; rfl) (hopI ?_))) (fun e => cond_i (fun e' => hopI (cond_t (by rw [e]; rfl) (cond_t e' ?_))) (fun e' => hopI (cond_t (by rw [e]; rfl) (cond_f e' (hopI ?_)))))
  · simp only [e, Bool.true_or, if_true] at hK
    exact hand_spec H1 m.data _ _ fun σ' a n c O k => ⟨_, _, _, rfl, Out.one hK H1 M1 σ' a n c O k⟩
  · simp only [e, e', Bool.false_or, if_true] at hK
    refine ⟨_, _, _, rd H1.hp rfl, _, rd H1.hp rfl, rq ?_ (ptrI (H1.storeS h.owner.toNat ?_ true ?_ fun σ2 H2 M2 => hopI (H2.store (h' := { h with sh := (h.sh.set h.serves.toNat true).set h.owner.toNat true, owner := -1 }) rfl rfl (by omega) rfl rfl rfl fun σ3 H3 M3 => hopI ?_)))⟩
    · have := ho e e'; simp; omega
    · have := ho e e'; simp; omega
    · have := ho e e'; simp
    · exact hand_spec H3 m.data _ _ fun σ' a n c O k => ⟨_, _, _, rfl, Out.one hK H3 (M1.trans (M2.trans M3)) σ' a n c O k⟩
  · simp only [e, e', Bool.false_or] at hK
    exact H1.store (h' := { h with sh := h.sh.set h.serves.toNat true, owner := -1 }) rfl rfl (by omega) rfl rfl rfl fun σ3 H3 M3 => hopI (hand_spec H3 h.data _ _ fun σ' a n c O k => ⟨_, _, _, rfl, Out.one hK H3 (M1.trans M3) σ' a n c O k⟩)

theorem own_loop1 {p s v : Nat} {K : Value → Store → Prop} {la : Option Addr} {ln lc : Nat} (sh : List Bool) (sv : Int) (hn : sh.length ≤ 4) :
    ∀ (r i : Nat) (h : HM L4) (σ : Store), At σ p s v h → h.sh = sh → h.serves = sv → h.inv.length = sh.length → i + r = sh.length →
      (∀ σ', At σ' p s v { h with inv := HM.invUp sv i (sh.drop i) h.inv } → Md p s v σ σ' → home_Home_own.j8 K p 0 la ln lc σ') →
      home_Home_own.l3 K (r + 1) p 0 la ln lc (some ⟨s, 0, none⟩) sh.length sh.length ((sh.length : Nat) : Int) (i : Int) σ
  | 0, i, h, σ, H, h1, h2, h3, hi, hK => by
    refine cond_f (by simp; omega) (hopI ?_)
    rw [List.drop_of_length_le (by omega)] at hK; exact hK σ H (Md.refl _ _ _ _)
  | r + 1, i, h, σ, H, h1, h2, h3, hi, hK => by
    subst h1 h2
    rw [List.drop_eq_getElem_cons (by omega)] at hK
    unfold HM.invUp at hK
    refine cond_t (by simp; omega) (rq (by simp; omega) ⟨_, H.readS (by omega), ?_⟩)
    have no : (h.sh[i] && (i : Int) != h.serves) = false → home_Home_own.l3 K (r + 1) p 0 la ln lc (some ⟨s, 0, none⟩) h.sh.length h.sh.length ((h.sh.length : Nat) : Int) (IntKind.wrap .i64 ((i : Int) + 1)) σ := by
      intro e
      rw [wrap_succ (by omega)]
      rw [if_neg (by rw [e]; simp)] at hK
      exact own_loop1 h.sh h.serves hn r (i + 1) h σ H rfl rfl h3 (by omega) hK
    refine cond_i (fun e => ⟨_, rd H.hp rfl, hopI (cond_i (fun e' => ?_) (fun e' => hopI (no ?_)))⟩) (fun e => hopI (cond_f rfl (hopI (no ?_))))
    · rw [if_pos (by rw [show h.sh[i] = true from e, show ((i : Int) != h.serves) = true from e']; rfl)] at hK
      refine ⟨_, _, _, rd H.hp rfl, rq (by simp; omega) (ptrI (H.storeV i (by omega) true (by simp) fun σ1 H1 M1 => hopI ?_))⟩
      rw [wrap_succ (by omega)]
      exact own_loop1 h.sh h.serves hn r (i + 1) { h with inv := h.inv.set i true } σ1 H1 rfl rfl (by rw [← h3]; exact List.length_set) (by omega) fun σ2 H2 M2 => hK σ2 H2 (M1.trans M2)
    · rw [show h.sh[i] = true from e, show ((i : Int) != h.serves) = false from e']; rfl
    · rw [show h.sh[i] = false from e]; rfl

theorem own_loop2 {p s v : Nat} {K : Value → Store → Prop} {h : HM L4} {σ0 : Store} (hp : σ0 p ≠ none) (hs : σ0 s ≠ none) (hv : σ0 v ≠ none) (hn : h.harts.toNat ≤ 4) (hi4 : h.inv.length = h.harts.toNat) :
    ∀ (r i : Nat) (a : Option Addr) (n c : Nat) (xs : List (Msg L4)) (σ : Store), At σ p s v h → (∀ b, σ0 b ≠ none → σ b ≠ none) → OwnM σ0 σ a n c xs → n ≤ 2 * i → i + r = h.harts.toNat →
      (∀ σ' a n c, OwnM σ0 σ' a n c (xs ++ h.asks L4.z r i) → Kept σ0 σ σ' → home_Home_own.j18 K p 0 a n c σ') →
      home_Home_own.l11 K (r + 1) p 0 a n c (h.harts.toNat : Int) (i : Int) σ
  | 0, i, a, n, c, xs, σ, H, hd, O, hb, hi, hK => by
    refine cond_f (by simp; omega) (hopI ?_)
    exact hK σ a n c (by simpa [HM.asks] using O) (Kept.refl _ _)
  | r + 1, i, a, n, c, xs, σ, H, hd, O, hb, hi, hK => by
    unfold HM.asks at hK
    refine cond_t (by simp; omega) ⟨_, _, _, rd H.hp rfl, rq (by simp; omega) ⟨_, H.readV (by omega), ?_⟩⟩
    have j15 : ∀ (a : Option Addr) (n c : Nat) (ys : List (Msg L4)) (σ1 : Store), At σ1 p s v h → (∀ b, σ0 b ≠ none → σ1 b ≠ none) → OwnM σ0 σ1 a n c (xs ++ ys) → n ≤ 2 * i + 1 → Kept σ0 σ σ1 →
        ys = (if h.inv.getD i false then [h.to_ L4.z i 4] else []) →
        home_Home_own.j15 K (home_Home_own.l11 K (r + 1)) p 0 a n c (i : Int) (h.harts.toNat : Int) (i : Int) σ1 := by
      intro a n c ys σ1 H1 hd1 O1 hb1 k1 hy
      subst hy
      refine ⟨_, rd H1.hp rfl, cond_i (fun e => ?_) (fun e => hopI ?_)⟩
      · rw [show (h.asked == (i : Int)) = true from e] at hK
        refine to_spec H1 _ _ ⟨_, _, _, _, _, _, _, _, _, _, _, rfl, Own.app Msg.cells_length Msg.cells_one O1 hd1 rfl (ys := [h.to_ L4.z i 6]) (by simp; rfl) rfl (by show (2 * (n + 1) + 768) * 56 ≤ _; omega) (by show n + 1 ≤ _; omega) fun a2 n2 c2 σ2 O2 k2 => hopI ?_⟩
        rw [wrap_succ (by omega)]
        refine own_loop2 hp hs hv hn hi4 r (i + 1) a2 n2 c2 _ σ2 (H1.kept k2 hp hs hv) (fun b hb => k2.dom b (hd1 b hb)) O2 (by have := O2.1; have := O1.1; simp at *; omega) (by omega) fun σ3 a3 n3 c3 O3 k3 => hK σ3 a3 n3 c3 ?_ (k1.trans (k2.trans k3))
        simpa using O3
      · rw [show (h.asked == (i : Int)) = false from e] at hK
        rw [wrap_succ (by omega)]
        refine own_loop2 hp hs hv hn hi4 r (i + 1) a n c _ σ1 H1 hd1 O1 (by omega) (by omega) fun σ3 a3 n3 c3 O3 k3 => hK σ3 a3 n3 c3 ?_ (k1.trans k3)
        simpa using O3
    have hg := getD_get h.inv i (by omega)
    refine cond_i (fun e => ?_) (fun e => hopI (j15 a n c [] σ H hd (by simpa using O) (by omega) (Kept.refl _ _) ?_))
    · refine to_spec H _ _ ⟨_, _, _, _, _, _, _, _, _, _, _, rfl, Own.app Msg.cells_length Msg.cells_one O hd rfl (ys := [h.to_ L4.z i 4]) (by simp; rfl) rfl (by show (2 * (n + 1) + 768) * 56 ≤ _; omega) (by show n + 1 ≤ _; omega) fun a2 n2 c2 σ2 O2 k2 => hopI ?_⟩
      refine j15 a2 n2 c2 [h.to_ L4.z i 4] σ2 (H.kept k2 hp hs hv) (fun b hb => k2.dom b (hd b hb)) O2 (by have := O2.1; have := O.1; simp at *; omega) k2 ?_
      rw [hg, show h.inv[i] = true from e]; rfl
    · rw [hg, show h.inv[i] = false from e]; rfl

theorem own_spec {σ : Store} {p s v : Nat} {h : HM L4} (H : At σ p s v h) (W : h.WF) {K : Value → Store → Prop} (hK : Out p s v σ (h.own L4.z) K) :
    Spec Pr F.home_Home_own [.pointer (some ⟨p, 0, none⟩)] σ K := by
  have h1 := W.sh
  have h2 := W.inv
  have h3 := W.h4
  have h4 := W.h1
  have hh : h.harts = (h.harts.toNat : Int) := by omega
  refine home_Home_own.ok ⟨_, _, _, rd H.hp rfl, hopI ⟨_, own_loop1 h.sh h.serves (by omega) h.sh.length 0 h σ H rfl rfl (by omega) (by omega) fun σ1 H1 M1 => ?_⟩⟩
  rw [List.drop_zero] at H1
  have hl := HM.invUp_length h.serves h.sh 0 h.inv
  -- the part behind the loop, with the owner asked or not
  have tail : ∀ (h2 : HM L4) (σ2 : Store), At σ2 p s v h2 → Md p s v σ σ2 → h2.harts = h.harts → h2.inv.length = h.harts.toNat →
      Out p s v σ (if (h2.asks L4.z h2.harts.toNat 0).length > 0 then (h2, h2.asks L4.z h2.harts.toNat 0) else HM.owned L4.z h2) K → home_Home_own.j10 K p 0 none 0 0 σ2 := by
    intro h2 σ2 H2 M2 e1 e2 hK2
    refine ⟨_, rd H2.hp rfl, hopI ⟨h2.harts.toNat + 1, ?_⟩⟩
    rw [show h2.harts = (h2.harts.toNat : Int) by omega]
    refine own_loop2 (h := h2) (σ0 := σ2) H2.np H2.ns H2.nv (by omega) (by omega) h2.harts.toNat 0 none 0 0 [] σ2 H2 (fun _ h => h) (Own.nil _ _ _ _) (by omega) (by omega) fun σ3 a n c O k => ?_
    rw [List.nil_append] at O
    refine cond_i (fun e => ?_) (fun e => owned_spec (H2.kept' k) (by omega) ?_)
    · rw [if_pos (by have := O.1; simp at e; omega)] at hK2
      exact hK2 σ3 a n c (H2.kept' k) (M2.trans (Kept.md' k p s v)) (Own.base O M2.dom)
    · rw [if_neg (by have := O.1; simp at e; simp only [gt_iff_lt, Nat.not_lt]; omega)] at hK2
      exact Out.md (fun σ4 a4 n4 c4 H4 M4 O4 => ⟨_, _, _, rfl, hK2 σ4 a4 n4 c4 H4 M4 O4⟩) (M2.trans (Kept.md' k p s v))
  unfold HM.own at hK
  simp only at hK
  have no : (h.owner != -1 && h.owner != h.serves) = false → home_Home_own.j9 K p 0 none 0 0 false σ1 := by
    intro e
    rw [if_neg (show ¬((h.owner != -1 && h.owner != h.serves) = true) by rw [e]; simp)] at hK
    exact cond_f rfl (hopI (tail _ σ1 H1 M1 rfl (by rw [← h2]; exact hl) hK))
  refine ⟨_, rd H1.hp rfl, cond_i (fun e => ⟨_, rd H1.hp rfl, _, rd H1.hp rfl, hopI ?_⟩) (fun e => hopI (no ?_))⟩
  · show home_Home_own.j9 K p 0 none 0 0 (h.owner != h.serves) σ1
    cases e1 : (h.owner != h.serves) with
    | false => exact no (by rw [e1]; simp)
    | true =>
      rw [if_pos (show (h.owner != -1 && h.owner != h.serves) = true by rw [e1, show (h.owner != -1) = true from e]; rfl)] at hK
      exact cond_t rfl ⟨_, rd H1.hp rfl, H1.store (h' := { h with inv := HM.invUp h.serves 0 h.sh h.inv, asked := h.owner }) rfl rfl (by omega) rfl rfl rfl fun σ2 H2 M2 => hopI (tail _ σ2 H2 (M1.trans M2) rfl (by rw [← h2]; exact hl) hK)⟩
  · rw [show (h.owner != -1) = false from e]; rfl

end Go.Ev.Hom
