/-
  The document's home keeps to its plain functions.
  Conditions: none.
-/
import Derived.Test.YtohkplmfihhhnaaXs
set_option linter.unusedVariables false
namespace Go.Ev.Hom
open Go

structure SL where
  a : Option Addr
  n : Nat
  c : Nat

def SL.v (s : SL) : Value := .slice s.a s.n s.c

/-- A list of numbers that lies in none of these blocks. -/
def IsA (av : List Nat) (σ : Store) (s : SL) (l : List Int) : Prop :=
  s.n = l.length ∧ (s.n ≠ 0 → ∃ b o k, s.a = some ⟨b, o, none⟩ ∧ b ∉ av ∧ σ b = some k ∧ o + s.n * 1 ≤ k.cells.length ∧ (k.cells.drop o).take (s.n * 1) = l.flatMap ei)

theorem IsA.isI {av : List Nat} {σ : Store} {s : SL} {l : List Int} (h : IsA av σ s l) : IsI σ s.a s.n l := by
  obtain ⟨h1, h2⟩ := h
  refine ⟨h1, fun hn => ?_⟩
  obtain ⟨b, o, k, e, _, r⟩ := h2 hn
  exact ⟨b, o, k, e, r⟩

theorem IsA.nil (av : List Nat) (σ : Store) : IsA av σ ⟨none, 0, 0⟩ [] := ⟨rfl, fun h => (h rfl).elim⟩

theorem IsA.move {av : List Nat} {σ σ' : Store} {s : SL} {l : List Int} (h : IsA av σ s l) (hs : ∀ b, b ∉ av → σ b ≠ none → σ' b = σ b) : IsA av σ' s l := by
  obtain ⟨h1, h2⟩ := h
  refine ⟨h1, fun hn => ?_⟩
  obtain ⟨b, o, k, e, hb, hk, r⟩ := h2 hn
  exact ⟨b, o, k, e, hb, by rw [hs b hb (by rw [hk]; simp)]; exact hk, r⟩

theorem IsA.keptB {av : List Nat} {σ0 σ σ' : Store} {s : SL} {l : List Int} (h0 : IsA av σ0 s l) (h : IsA av σ s l) (k : Kept σ0 σ σ') : IsA av σ' s l := by
  obtain ⟨h1, h2⟩ := h
  refine ⟨h1, fun hn => ?_⟩
  obtain ⟨b, o, kk, e, hb, hk, r⟩ := h2 hn
  obtain ⟨b', o', kk', e', _, hk', _⟩ := h0.2 hn
  rw [e] at e'
  injection e' with e'
  injection e' with e1 e2
  subst e1
  exact ⟨b, o, kk, e, hb, by rw [k.same b (by rw [hk']; simp)]; exact hk, r⟩

theorem IsA.own {av : List Nat} {σ0 σ : Store} {a : Option Addr} {n c : Nat} {l : List Int} (h : OwnI σ0 σ a n c l) (hav : ∀ b ∈ av, σ0 b ≠ none) : IsA av σ ⟨a, n, c⟩ l := by
  obtain ⟨h1, h2, h3⟩ := h
  refine ⟨h1, fun hn => ?_⟩
  obtain ⟨b, o, k, e, hb, hk, hf, hl, ht⟩ := h3 (by show c ≠ 0; have : n ≠ 0 := hn; omega)
  refine ⟨b, o, k, e, fun hm => hav b hm hb, hk, ?_, ht⟩
  show o + n * 1 ≤ k.cells.length
  omega

def XM.cells (x : XM L4) (s w : SL) : List Value :=
  [.int .i64 x.line, .int .i64 x.harts, .int .u32 x.mem.a, .int .u32 x.mem.b, .int .u32 x.mem.c, .int .u32 x.mem.d, .int .i64 x.owner, s.v, .bool x.busy, .int .i64 x.kind, .int .i64 x.frm, w.v, .int .i64 x.asked] ++ x.back.cells ++ [.bool x.own]

/-- The document's home lies there. -/
structure XA (av : List Nat) (σ : Store) (q : Nat) (x : XM L4) (s w : SL) : Prop where
  hq : σ q = some ⟨44, x.cells s w, (0, 0)⟩
  hs : IsA av σ s x.sh
  hw : IsA av σ w x.waits

/-- Of what there was only q has changed. -/
structure Mq (q : Nat) (σ σ' : Store) : Prop where
  same : ∀ b, b ≠ q → σ b ≠ none → σ' b = σ b
  dom : ∀ b, σ b ≠ none → σ' b ≠ none

theorem Mq.refl (q : Nat) (σ : Store) : Mq q σ σ := ⟨fun _ _ _ => rfl, fun _ h => h⟩
theorem Mq.trans {q : Nat} {σ σ' σ'' : Store} (h : Mq q σ σ') (k : Mq q σ' σ'') : Mq q σ σ'' :=
  ⟨fun b h1 h2 => (k.same b h1 (h.dom b h2)).trans (h.same b h1 h2), fun b h1 => k.dom b (h.dom b h1)⟩
theorem Kept.mq {σ σ' : Store} (h : Kept σ σ σ') (q : Nat) : Mq q σ σ' := ⟨fun b _ h2 => h.same b h2, h.dom⟩

variable {av : List Nat} {q : Nat}

theorem XA.store {σ : Store} {x x' : XM L4} {s w s' w' : SL} (H : XA av σ q x s w) (hav : q ∈ av) {off n : Nat} {vs : List Value} {K : Store → Prop} (hn : vs.length = n) (ho : vs.all one = true) (hl : off + n ≤ 25)
    (hs : spliceL (x.cells s w) off vs = x'.cells s' w') (h1 : IsA av σ s' x'.sh) (h2 : IsA av σ w' x'.waits) (hK : ∀ σ', XA av σ' q x' s' w' → Mq q σ σ' → K σ') : StoreK σ q off n vs K := by
  have mv : ∀ b, b ∉ av → σ b ≠ none → (σ.set q ⟨44, spliceL (x.cells s w) off vs, (0, 0)⟩) b = σ b := fun b hb _ => set_diff (fun e => hb (by rw [e]; exact hav))
  refine st H.hq rfl hn ho (by show off + n ≤ 25; exact hl) (hK _ ⟨?_, h1.move mv, h2.move mv⟩ ⟨fun b hb _ => set_diff hb, fun b hb => ?_⟩)
  · rw [set_same]; exact congrArg (fun l => some (Blk.mk 44 l (0, 0))) hs
  · by_cases e : b = q
    · subst e; simp
    · rw [set_diff e]; exact hb

theorem XA.keptB {σ0 σ σ' : Store} {x x0 : XM L4} {s w : SL} (H : XA av σ q x s w) (h0 : σ0 q ≠ none) (hs0 : IsA av σ0 s x.sh) (hw0 : IsA av σ0 w x.waits) (k : Kept σ0 σ σ') : XA av σ' q x s w :=
  ⟨(k.same q h0).trans H.hq, hs0.keptB H.hs k, hw0.keptB H.hw k⟩

theorem XA.nq {σ : Store} {x : XM L4} {s w : SL} (H : XA av σ q x s w) : σ q ≠ none := by rw [H.hq]; simp

theorem XA.kept {σ σ' : Store} {x : XM L4} {s w : SL} (H : XA av σ q x s w) (k : Kept σ σ σ') : XA av σ' q x s w := H.keptB (x0 := x) H.nq H.hs H.hw k

theorem xmsg_spec {σ : Store} {x : XM L4} {s w : SL} (H : XA av σ q x s w) (kind to : Int) {K : Value → Store → Prop} (hK : K (x.msg L4.z kind to).agg σ) :
    Spec Pr F.corralref18_Home_msg [.pointer (some ⟨q, 0, none⟩), .int .i64 kind, .int .i64 to] σ K :=
  corralref18_Home_msg.ok ⟨_, rd H.hq rfl, hK⟩

theorem xdat_spec {σ : Store} {x : XM L4} {s w : SL} (H : XA av σ q x s w) (d : L4) (dirty alone : Bool) {K : Value → Store → Prop}
    (hK : ∀ σ' a n c, OwnM σ σ' a n c [x.dat d dirty alone] → Kept σ σ σ' → K (.slice a n c) σ') :
    Spec Pr F.corralref18_Home_data [.pointer (some ⟨q, 0, none⟩), d.agg, .bool dirty, .bool alone] σ K :=
  corralref18_Home_data.ok ⟨_, rd H.hq rfl, xmsg_spec H _ _ ⟨_, _, _, _, _, _, _, _, _, _, _, rfl, newMsg (x.dat d dirty alone) hK⟩⟩

/-- What Take and give answer with. -/
def OutX (av : List Nat) (q : Nat) (σ : Store) (r : XM L4 × List (Msg L4)) (K : Value → Store → Prop) : Prop :=
  ∀ σ' a n c s w, XA av σ' q r.1 s w → Mq q σ σ' → OwnM σ σ' a n c r.2 → K (.slice a n c) σ'

theorem OutX.one {σ σ1 : Store} {x : XM L4} {s w : SL} {l : List (Msg L4)} {K : Value → Store → Prop} (hK : OutX av q σ (x, l) K) (H : XA av σ1 q x s w) (M : Mq q σ σ1) :
    ∀ σ' a n c, OwnM σ1 σ' a n c l → Kept σ1 σ1 σ' → K (.slice a n c) σ' :=
  fun σ' a n c O k => hK σ' a n c s w (H.kept k) (M.trans (Kept.mq k q)) (Own.base O M.dom)

theorem OutX.nil {σ σ1 : Store} {x : XM L4} {s w : SL} {K : Value → Store → Prop} (hK : OutX av q σ (x, []) K) (H : XA av σ1 q x s w) (M : Mq q σ σ1) : K (.slice none 0 0) σ1 :=
  hK σ1 none 0 0 s w H M (Own.nil _ _ _ _)

theorem OutX.ch {σ σ1 : Store} {r : XM L4 × List (Msg L4)} {K : Value → Store → Prop} (hK : OutX av q σ r K) (M : Mq q σ σ1) : OutX av q σ1 r K :=
  fun σ' a n c s w H M' O => hK σ' a n c s w H (M.trans M') (Own.base O M.dom)

theorem give_spec {σ : Store} {x : XM L4} {s w : SL} (hav : q ∈ av) (H : XA av σ q x s w) {K : Value → Store → Prop} (hK : OutX av q σ (x.give L4.z) K) :
    Spec Pr F.corralref18_Home_give [.pointer (some ⟨q, 0, none⟩)] σ K := by
  unfold XM.give at hK
  refine corralref18_Home_give.ok ⟨_, rd H.hq rfl, _, rd H.hq rfl, H.store hav (x' := { x with owner := x.frm }) (s' := s) (w' := w) rfl rfl (by omega) rfl H.hs H.hw fun σ1 H1 M1 =>
    H1.store hav (x' := { x with owner := x.frm, sh := [] }) (s' := ⟨none, 0, 0⟩) (w' := w) rfl rfl (by omega) rfl (IsA.nil _ _) H1.hw fun σ2 H2 M2 => ?_⟩
  have M := M1.trans M2
  refine cond_i (fun e => ⟨_, rd H2.hq rfl, xmsg_spec H2 _ _ ⟨_, _, _, _, _, _, _, _, _, _, _, rfl, newMsg (x.msg L4.z 8 x.frm) ?_⟩⟩) (fun e => ⟨_, rd H2.hq rfl, ?_⟩)
  · rw [if_pos e] at hK; exact OutX.one hK H2 M
  rw [if_neg (by rw [e]; simp)] at hK
  refine cond_i (fun e2 => ⟨_, _, _, _, rds H2.hq (by show 21 ≤ 25; omega) rfl, _, rd H2.hq rfl, xdat_spec H2 x.back.data _ _ fun σ' a n c O k => ⟨_, _, _, rfl, ?_⟩⟩)
    (fun e2 => ⟨_, _, _, _, rds H2.hq (by show 6 ≤ 25; omega) rfl, xdat_spec H2 x.mem _ _ fun σ' a n c O k => ⟨_, _, _, rfl, ?_⟩⟩)
  · rw [if_pos e2] at hK; exact OutX.one hK H2 M σ' a n c O k
  · rw [if_neg (by rw [show x.back.has = false from e2]; simp)] at hK; exact OutX.one hK H2 M σ' a n c O k

theorem xtakes_spec {σ : Store} {x : XM L4} {s w : SL} (H : XA av σ q x s w) (hn : x.waits.length ≤ 1000) (m : Msg L4) {K : Value → Store → Prop} (hK : K (.bool (x.takes m)) σ) :
    Spec Pr F.corralref18_Home_Takes [.pointer (some ⟨q, 0, none⟩), m.agg] σ K := by
  unfold XM.takes at hK
  refine corralref18_Home_Takes.ok ⟨_, rd H.hq rfl, cond_i (fun e1 => ?_) (fun e1 => ?_)⟩
  · rw [e1] at hK; exact hK
  rw [e1] at hK
  refine cond_i (fun e2 => ?_) (fun e2 => ?_)
  · rw [e2] at hK; exact hK
  rw [e2] at hK
  refine cond_i (fun e3 => ?_) (fun e3 => ⟨_, rd H.hq rfl, ?_⟩)
  · simp at e3; rw [if_neg (by simp), if_neg (by simp), if_pos e3] at hK; exact hK
  simp at e3
  refine cond_i (fun e4 => ?_) (fun e4 => hopI ?_)
  · simp at e4; rw [if_neg (by simp), if_neg (by simp), if_neg (by omega), if_pos e4] at hK; exact hK
  simp at e4
  rw [if_neg (by simp), if_neg (by simp), if_neg (by omega), if_neg (by omega)] at hK
  have key : ∀ t : Bool, t = (m.kind == 1 || m.kind == 2 || m.kind == 3) → corralref18_Home_Takes.j7 K q 0 m.kind t m.kind m.line m.frm m.to m.data.a m.data.b m.data.c m.data.d m.has m.dirty m.alone σ := by
    intro t ht
    rw [← ht] at hK
    refine cond_i (fun e => ⟨_, rd H.hq rfl, ?_⟩) (fun e => ?_)
    · subst e; exact hK
    subst e
    rw [if_neg (by simp)] at hK
    refine cond_i (fun e => ⟨_, rd H.hq rfl, cond_i (fun e' => ⟨_, _, _, rd H.hq rfl, among_spec H.hw.isI hn _ ⟨_, rfl, ?_⟩⟩) (fun e' => ?_)⟩) (fun e => ?_)
    · rw [if_pos e, e'] at hK; exact hK
    · rw [if_pos e, e'] at hK; exact hK
    rw [if_neg (by rw [e]; simp)] at hK
    refine cond_i (fun e => ⟨_, rd H.hq rfl, cond_i (fun e' => ⟨_, rd H.hq rfl, ?_⟩) (fun e' => ?_)⟩) (fun e => ?_)
    · rw [if_pos e, e'] at hK; exact hK
    · rw [if_pos e, e'] at hK; exact hK
    rw [if_neg (by rw [e]; simp)] at hK
    refine cond_i (fun e => ⟨_, rd H.hq rfl, cond_i (fun e' => ⟨_, _, _, rd H.hq rfl, cond_i (fun e2 => ⟨_, rd H.hq rfl, cond_i (fun e3 => ⟨_, rd H.hq rfl, ?_⟩) (fun e3 => ?_)⟩) (fun e2 => ?_)⟩) (fun e' => ?_)⟩) (fun e => ?_)
    · have e2' : (x.waits.length == 0) = true := by rw [← H.hw.1]; simpa using e2
      rw [if_pos e, e', e2', e3] at hK; exact hK
    · have e2' : (x.waits.length == 0) = true := by rw [← H.hw.1]; simpa using e2
      rw [if_pos e, e', e2', e3] at hK; exact hK
    · have e2' : (x.waits.length == 0) = false := by rw [← H.hw.1]; simpa using e2
      rw [if_pos e, e', e2'] at hK; exact hK
    · rw [if_pos e, e'] at hK; exact hK
    · rw [if_neg (by rw [e]; simp)] at hK; exact hK
  refine cond_i (fun e => hopI (key _ ?_)) (fun e => cond_i (fun e' => hopI (key _ ?_)) (fun e' => hopI (key _ ?_)))
  · rw [e]; rfl
  · rw [e', e]; rfl
  · rw [e, e']; rfl

end Go.Ev.Hom
