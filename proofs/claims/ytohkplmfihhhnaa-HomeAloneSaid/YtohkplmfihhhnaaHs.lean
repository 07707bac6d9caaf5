/-
  The home's functions keep to the plain ones.
  Conditions: none.
-/
import Derived.Test.YtohkplmfihhhnaaHm
import Derived.Test.YtohkplmfihhhnaaFa
set_option linter.unusedVariables false
namespace Go.Ev.Hom
open Go

structure L4 where
  a : Int
  b : Int
  c : Int
  d : Int
  deriving DecidableEq

def L4.z : L4 := ⟨0, 0, 0, 0⟩
def L4.agg (l : L4) : Value := .agg #[.int .u32 l.a, .int .u32 l.b, .int .u32 l.c, .int .u32 l.d]
def Msg.cells (m : Msg L4) : List Value := [.int .i64 m.kind, .int .i64 m.line, .int .i64 m.frm, .int .i64 m.to, .int .u32 m.data.a, .int .u32 m.data.b, .int .u32 m.data.c, .int .u32 m.data.d, .bool m.has, .bool m.dirty, .bool m.alone]
def Msg.agg (m : Msg L4) : Value := .agg m.cells.toArray
def bc (l : List Bool) : List Value := l.map Value.bool
def slv (s : Nat) (n : Nat) : Value := .slice (some ⟨s, 0, none⟩) n n
def HM.cells (h : HM L4) (s v : Nat) (sn vn : Nat) : List Value :=
  [.int .i64 h.line, .int .i64 h.harts, .int .u32 h.data.a, .int .u32 h.data.b, .int .u32 h.data.c, .int .u32 h.data.d, .int .i64 h.owner, slv s sn, .bool h.busy, .int .i64 h.serves, .int .i64 h.by_, .int .i64 h.asked, slv v vn] ++ h.back.cells

/-- The home lies there. -/
structure At (σ : Store) (p s v : Nat) (h : HM L4) : Prop where
  hp : σ p = some ⟨51, h.cells s v h.sh.length h.inv.length, (0, 0)⟩
  hs : σ s = some ⟨4, bc h.sh, (0, 0)⟩
  hv : σ v = some ⟨4, bc h.inv, (0, 0)⟩
  sv : s ≠ v
  sp : s ≠ p
  vp : v ≠ p

/-- Of what there was, only the home has changed. -/
structure Md (p s v : Nat) (σ σ' : Store) : Prop where
  same : ∀ b, b ≠ p → b ≠ s → b ≠ v → σ b ≠ none → σ' b = σ b
  dom : ∀ b, σ b ≠ none → σ' b ≠ none

theorem Md.refl (p s v : Nat) (σ : Store) : Md p s v σ σ := ⟨fun _ _ _ _ _ => rfl, fun _ h => h⟩
theorem Md.trans {p s v : Nat} {σ σ' σ'' : Store} (h : Md p s v σ σ') (k : Md p s v σ' σ'') : Md p s v σ σ'' :=
  ⟨fun b h1 h2 h3 h4 => (k.same b h1 h2 h3 (h.dom b h4)).trans (h.same b h1 h2 h3 h4), fun b h1 => k.dom b (h.dom b h1)⟩

theorem Kept.md {σ0 σ σ' : Store} (h : Kept σ0 σ σ') (hd : ∀ b, σ b ≠ none → σ0 b ≠ none) (p s v : Nat) : Md p s v σ σ' := ⟨fun b _ _ _ h4 => h.same b (hd b h4), h.dom⟩

theorem At.kept {σ0 σ σ' : Store} {p s v : Nat} {h : HM L4} (H : At σ p s v h) (k : Kept σ0 σ σ') (hp : σ0 p ≠ none) (hs : σ0 s ≠ none) (hv : σ0 v ≠ none) : At σ' p s v h :=
  ⟨(k.same p hp).trans H.hp, (k.same s hs).trans H.hs, (k.same v hv).trans H.hv, H.sv, H.sp, H.vp⟩

theorem At.np {σ : Store} {p s v : Nat} {h : HM L4} (H : At σ p s v h) : σ p ≠ none := by rw [H.hp]; simp
theorem At.ns {σ : Store} {p s v : Nat} {h : HM L4} (H : At σ p s v h) : σ s ≠ none := by rw [H.hs]; simp
theorem At.nv {σ : Store} {p s v : Nat} {h : HM L4} (H : At σ p s v h) : σ v ≠ none := by rw [H.hv]; simp

/-- A new block: what there was stays. -/
theorem newKept {σ : Store} {b : Nat} (k : Blk) (hb : σ b = none) : Kept σ σ (σ.set b k) :=
  ⟨fun i hi => set_diff fun e => hi (by rw [e]; exact hb), fun i hi => by rw [set_diff (fun e => hi (by rw [e]; exact hb))]; exact hi⟩

theorem At.store {σ : Store} {p s v : Nat} {h h' : HM L4} (H : At σ p s v h) {off n : Nat} {vs : List Value} {K : Store → Prop} (hn : vs.length = n) (ho : vs.all one = true) (hl : off + n ≤ 24)
    (hs : spliceL (h.cells s v h.sh.length h.inv.length) off vs = h'.cells s v h.sh.length h.inv.length) (h1 : h'.sh = h.sh) (h2 : h'.inv = h.inv)
    (hK : ∀ σ', At σ' p s v h' → Md p s v σ σ' → K σ') : StoreK σ p off n vs K := by
  refine st H.hp rfl hn ho (by show off + n ≤ 24; exact hl) (hK _ ⟨?_, ?_, ?_, H.sv, H.sp, H.vp⟩ ⟨?_, ?_⟩)
  · rw [set_same, h1, h2]; exact congrArg (fun l => some (Blk.mk 51 l (0, 0))) hs
  · rw [set_diff H.sp, h1]; exact H.hs
  · rw [set_diff H.vp, h2]; exact H.hv
  · intro b hb _ _ _; exact set_diff hb
  · intro b hb; by_cases e : b = p
    · subst e; simp
    · rw [set_diff e]; exact hb

theorem bc_splice (l : List Bool) (i : Nat) (x : Bool) (hi : i < l.length) : spliceL (bc l) i [.bool x] = bc (l.set i x) := by
  simp [spliceL, bc, List.map_set]

theorem At.storeS {σ : Store} {p s v : Nat} {h : HM L4} (H : At σ p s v h) (i : Nat) (hi : i < h.sh.length) (x : Bool) {off : Nat} (ho : off = i) {K : Store → Prop}
    (hK : ∀ σ', At σ' p s v { h with sh := h.sh.set i x } → Md p s v σ σ' → K σ') : StoreK σ s off 1 [.bool x] K := by
  subst ho
  refine st H.hs rfl rfl rfl (by show off + 1 ≤ (bc h.sh).length; simp [bc]; omega) (hK _ ⟨?_, ?_, ?_, H.sv, H.sp, H.vp⟩ ⟨?_, ?_⟩)
  · rw [set_diff H.sp.symm, H.hp, List.length_set]; rfl
  · rw [set_same]; exact congrArg (fun l => some (Blk.mk 4 l (0, 0))) (bc_splice _ _ _ hi)
  · rw [set_diff H.sv.symm]; exact H.hv
  · intro b _ hb _ _; exact set_diff hb
  · intro b hb; by_cases e : b = s
    · subst e; simp
    · rw [set_diff e]; exact hb

theorem At.storeV {σ : Store} {p s v : Nat} {h : HM L4} (H : At σ p s v h) (i : Nat) (hi : i < h.inv.length) (x : Bool) {off : Nat} (ho : off = i) {K : Store → Prop}
    (hK : ∀ σ', At σ' p s v { h with inv := h.inv.set i x } → Md p s v σ σ' → K σ') : StoreK σ v off 1 [.bool x] K := by
  subst ho
  refine st H.hv rfl rfl rfl (by show off + 1 ≤ (bc h.inv).length; simp [bc]; omega) (hK _ ⟨?_, ?_, ?_, H.sv, H.sp, H.vp⟩ ⟨?_, ?_⟩)
  · rw [set_diff H.vp.symm, H.hp, List.length_set]; rfl
  · rw [set_diff H.sv]; exact H.hs
  · rw [set_same]; exact congrArg (fun l => some (Blk.mk 4 l (0, 0))) (bc_splice _ _ _ hi)
  · intro b _ _ hb _; exact set_diff hb
  · intro b hb; by_cases e : b = v
    · subst e; simp
    · rw [set_diff e]; exact hb

theorem bc_get (l : List Bool) (i : Nat) (hi : i < l.length) : (bc l)[i]? = some (.bool l[i]) := by
  simp [bc, hi]

theorem At.readS {σ : Store} {p s v : Nat} {h : HM L4} (H : At σ p s v h) {i : Nat} (hi : i < h.sh.length) : cellAt σ s (0 + i * 1) = some (.bool h.sh[i]) :=
  rd H.hs (by show (bc h.sh)[0 + i * 1]? = _; rw [Nat.zero_add, Nat.mul_one]; exact bc_get _ _ hi)
theorem At.readV {σ : Store} {p s v : Nat} {h : HM L4} (H : At σ p s v h) {i : Nat} (hi : i < h.inv.length) : cellAt σ v (0 + i * 1) = some (.bool h.inv[i]) :=
  rd H.hv (by show (bc h.inv)[0 + i * 1]? = _; rw [Nat.zero_add, Nat.mul_one]; exact bc_get _ _ hi)

theorem map_flatMap1 : ∀ l : List Bool, bc l = l.flatMap (fun x => [Value.bool x])
  | [] => rfl
  | b :: l => congrArg (Value.bool b :: ·) (map_flatMap1 l)

theorem At.isS {σ : Store} {p s v : Nat} {h : HM L4} (H : At σ p s v h) : IsL (fun x => [Value.bool x]) 1 σ (some ⟨s, 0, none⟩) h.sh.length h.sh :=
  ⟨rfl, fun _ => ⟨s, 0, _, rfl, H.hs, by show 0 + h.sh.length * 1 ≤ (bc h.sh).length; simp [bc], by
    show ((bc h.sh).drop 0).take (h.sh.length * 1) = _
    rw [List.drop_zero, List.take_of_length_le (by simp [bc])]; exact map_flatMap1 h.sh⟩⟩

theorem At.isV {σ : Store} {p s v : Nat} {h : HM L4} (H : At σ p s v h) : IsL (fun x => [Value.bool x]) 1 σ (some ⟨v, 0, none⟩) h.inv.length h.inv :=
  ⟨rfl, fun _ => ⟨v, 0, _, rfl, H.hv, by show 0 + h.inv.length * 1 ≤ (bc h.inv).length; simp [bc], by
    show ((bc h.inv).drop 0).take (h.inv.length * 1) = _
    rw [List.drop_zero, List.take_of_length_le (by simp [bc])]; exact map_flatMap1 h.inv⟩⟩

theorem to_spec {σ : Store} {p s v : Nat} {h : HM L4} (H : At σ p s v h) (hart kind : Int) {K : Value → Store → Prop} (hK : K (h.to_ L4.z hart kind).agg σ) :
    Spec Pr F.home_Home_to [.pointer (some ⟨p, 0, none⟩), .int .i64 hart, .int .i64 kind] σ K :=
  home_Home_to.ok ⟨_, rd H.hp rfl, hK⟩

theorem busy_spec {σ : Store} {p s v : Nat} {h : HM L4} (H : At σ p s v h) {K : Value → Store → Prop} (hK : K (.bool h.busy) σ) :
    Spec Pr F.home_Home_Busy [.pointer (some ⟨p, 0, none⟩)] σ K :=
  home_Home_Busy.ok ⟨_, rd H.hp rfl, hK⟩

theorem owner_spec {σ : Store} {p s v : Nat} {h : HM L4} (H : At σ p s v h) {K : Value → Store → Prop} (hK : K (.int .i64 h.owner) σ) :
    Spec Pr F.home_Home_Owner [.pointer (some ⟨p, 0, none⟩)] σ K :=
  home_Home_Owner.ok ⟨_, rd H.hp rfl, hK⟩

theorem data_spec {σ : Store} {p s v : Nat} {h : HM L4} (H : At σ p s v h) {K : Value → Store → Prop} (hK : K h.data.agg σ) :
    Spec Pr F.home_Home_Data [.pointer (some ⟨p, 0, none⟩)] σ K :=
  home_Home_Data.ok ⟨_, _, _, _, rds H.hp (by show 6 ≤ 24; omega) rfl, hK⟩

/-- Where the first one is, or -1. -/
def idxF (v : Bool) : Nat → List Bool → Int
  | _, [] => -1
  | i, b :: bs => if v == b then i else idxF v (i + 1) bs

theorem idxF_ge (v : Bool) : ∀ (bs : List Bool) (i : Nat), decide (idxF v i bs ≥ 0) = bs.contains v
  | [], i => by simp [idxF]
  | b :: bs, i => by
    unfold idxF
    by_cases h : v == b
    · rw [if_pos h]; simp at h; subst h; simp
    · rw [if_neg h, idxF_ge v bs]; simp at h; simp [h]

theorem index_loop {σ : Store} {a : Option Addr} {n c : Nat} {xs : List Bool} (h : IsL (fun x => [Value.bool x]) 1 σ a n xs) (hn : xs.length < 4611686018427387904) (v : Bool) {K : Value → Store → Prop} :
    ∀ (r i : Nat), i + r = xs.length → K (.int .i64 (idxF v i (xs.drop i))) σ → slices_Index.l2 K (r + 1) a n c v ((n : Nat) : Int) (i : Int) σ
  | 0, i, hi, hK => by
    refine cond_f (by simp [h.1]; omega) (hopI ?_)
    rw [List.drop_of_length_le (by omega)] at hK
    exact hK
  | r + 1, i, hi, hK => by
    refine cond_t (by simp [h.1]; omega) (h.at1 i rfl (by omega) fun B O hc => ⟨_, hc, ?_⟩)
    rw [List.drop_eq_getElem_cons (by omega)] at hK
    unfold idxF at hK
    refine cond_i (fun e => ?_) (fun e => hopI ?_)
    · rw [if_pos e] at hK; exact hK
    · rw [if_neg (by rw [e]; simp)] at hK
      rw [wrap_succ (by omega)]
      exact index_loop h hn v r (i + 1) (by omega) hK

theorem contains_spec {σ : Store} {a : Option Addr} {n c : Nat} {xs : List Bool} (h : IsL (fun x => [Value.bool x]) 1 σ a n xs) (hn : xs.length < 4611686018427387904) (v : Bool) {K : Value → Store → Prop}
    (hK : K (.bool (xs.contains v)) σ) : Spec Pr F.slices_Contains [.slice a n c, .bool v] σ K := by
  refine slices_Contains.ok (slices_Index.ok (hopI ⟨_, index_loop h hn v xs.length 0 (by omega) ⟨_, rfl, ?_⟩⟩))
  rw [List.drop_zero, idxF_ge]; exact hK

theorem waits_spec {σ : Store} {p s v : Nat} {h : HM L4} (H : At σ p s v h) (W : h.inv.length ≤ 4) {K : Value → Store → Prop} (hK : K (.bool h.waits) σ) :
    Spec Pr F.home_Home_waits [.pointer (some ⟨p, 0, none⟩)] σ K := by
  refine home_Home_waits.ok ⟨_, rd H.hp rfl, cond_i (fun e => ?_) (fun e => ?_)⟩
  · unfold HM.waits at hK; rw [e] at hK; exact hK
  · refine ⟨_, _, _, rd H.hp rfl, contains_spec H.isV (by omega) true ⟨_, rfl, ?_⟩⟩
    unfold HM.waits at hK; rw [e] at hK; exact hK

theorem getD_get (l : List Bool) (i : Nat) (hi : i < l.length) : l.getD i false = l[i] := by simp [List.getD, hi]

theorem takes_spec {σ : Store} {p s v : Nat} {h : HM L4} (H : At σ p s v h) (W : h.WF) (m : Msg L4) {K : Value → Store → Prop} (hK : K (.bool (h.takes m)) σ) :
    Spec Pr F.home_Home_Takes [.pointer (some ⟨p, 0, none⟩), m.agg] σ K := by
  unfold HM.takes at hK
  refine home_Home_Takes.ok ⟨_, rd H.hp rfl, cond_i (fun e1 => ?_) (fun e1 => ?_)⟩
  · rw [e1] at hK; exact hK
  rw [e1] at hK
  refine cond_i (fun e2 => ?_) (fun e2 => ?_)
  · rw [e2] at hK; exact hK
  rw [e2] at hK
  refine cond_i (fun e3 => ?_) (fun e3 => ⟨_, rd H.hp rfl, ?_⟩)
  · simp at e3; rw [if_neg (by simp), if_neg (by simp), if_pos e3] at hK; exact hK
  simp at e3
  refine cond_i (fun e4 => ?_) (fun e4 => hopI ?_)
  · simp at e4; rw [if_neg (by simp), if_neg (by simp), if_neg (by omega), if_pos e4] at hK; exact hK
  simp at e4
  rw [if_neg (by simp), if_neg (by simp), if_neg (by omega), if_neg (by omega)] at hK
  have hi : m.frm.toNat < h.inv.length := by have := W.inv; omega
  have key : ∀ t : Bool, t = (m.kind == 1 || m.kind == 2 || m.kind == 3) → home_Home_Takes.j7 K p 0 m.kind t m.kind m.line m.frm m.to m.data.a m.data.b m.data.c m.data.d m.has m.dirty m.alone σ := by
    intro t ht
    rw [← ht] at hK
    refine cond_i (fun e => ⟨_, rd H.hp rfl, ?_⟩) (fun e => ?_)
    · subst e; exact hK
    subst e
    rw [if_neg (by simp)] at hK
    refine cond_i (fun e => ⟨_, rd H.hp rfl, cond_i (fun e' => ⟨_, _, _, rd H.hp rfl, rq (by simp; omega) ⟨_, H.readV hi, ?_⟩⟩) (fun e' => ?_)⟩) (fun e => ?_)
    · rw [if_pos e, e', getD_get _ _ hi] at hK; exact hK
    · rw [if_pos e, e'] at hK; exact hK
    rw [if_neg (by rw [e]; simp)] at hK
    refine cond_i (fun e => ⟨_, rd H.hp rfl, cond_i (fun e' => ⟨_, rd H.hp rfl, ?_⟩) (fun e' => ?_)⟩) (fun e => ?_)
    · rw [if_pos e, e'] at hK; exact hK
    · rw [if_pos e, e'] at hK; exact hK
    rw [if_neg (by rw [e]; simp)] at hK
    refine cond_i (fun e => ⟨_, rd H.hp rfl, cond_i (fun e' => ?_) (fun e' => ?_)⟩) (fun e => ?_)
    · refine waits_spec H (by have := W.inv; have := W.h4; omega) ⟨_, rfl, cond_i (fun e'' => ⟨_, rd H.hp rfl, ?_⟩) (fun e'' => ?_)⟩
      · rw [if_pos e, e', e''] at hK; exact hK
      · rw [if_pos e, e', e''] at hK; exact hK
    · rw [if_pos e, e'] at hK; exact hK
    · rw [if_neg (by rw [e]; simp)] at hK; exact hK
  refine cond_i (fun e => hopI (key _ ?_)) (fun e => cond_i (fun e' => hopI (key _ ?_)) (fun e' => hopI (key _ ?_)))
  · rw [e]; rfl
  · rw [e', e]; rfl
  · rw [e, e']; rfl

end Go.Ev.Hom
