/-
  The home as plain functions: what it takes, and what it sends.
  Conditions: none.
-/
import Derived.Test.YtohkplmfihhhnaaEv12
namespace Go.Ev.Hom
open Go

structure Msg (δ : Type) where
  kind : Int
  line : Int
  frm : Int
  to : Int
  data : δ
  has : Bool
  dirty : Bool
  alone : Bool

structure HM (δ : Type) where
  line : Int
  harts : Int
  data : δ
  owner : Int
  sh : List Bool
  busy : Bool
  serves : Int
  by_ : Int
  asked : Int
  inv : List Bool
  back : Msg δ

variable {δ : Type}

def zmsg (z : δ) : Msg δ := ⟨0, 0, 0, 0, z, false, false, false⟩

namespace HM
def to_ (z : δ) (h : HM δ) (hart kind : Int) : Msg δ := ⟨kind, h.line, -1, hart, z, false, false, false⟩
def waits (h : HM δ) : Bool := h.asked != -1 || h.inv.contains true
def takes (h : HM δ) (m : Msg δ) : Bool :=
  if m.line != h.line then false else if m.to != -1 then false else if m.frm < 0 then false else if m.frm ≥ h.harts then false
  else if m.kind == 1 || m.kind == 2 || m.kind == 3 then !h.busy
  else if m.kind == 10 then h.busy && h.inv.getD m.frm.toNat false
  else if m.kind == 11 then h.busy && h.asked == m.frm
  else if m.kind == 12 then h.busy && !h.waits && h.serves == m.frm
  else false
def hand (h : HM δ) (d : δ) (dirty alone : Bool) : Msg δ := ⟨7, h.line, -1, h.serves, d, true, dirty, alone⟩
def owned (z : δ) (h : HM δ) : HM δ × List (Msg δ) :=
  if h.waits then (h, []) else
  ({ h with owner := h.serves, sh := List.replicate h.sh.length false },
    [if h.owner == h.serves then h.to_ z h.serves 8 else if h.back.has then h.hand h.back.data h.back.dirty true else h.hand h.data false true])
/-- Nobody among these, from the i-th on, but r. -/
def aloneF (r : Int) : Nat → List Bool → Bool → Bool
  | _, [], acc => acc
  | i, b :: bs, acc => aloneF r (i + 1) bs (acc && (!b || (i : Int) == r))
def share (z : δ) (h : HM δ) : HM δ × List (Msg δ) :=
  if h.owner != -1 && h.owner != h.serves then ({ h with asked := h.owner }, [h.to_ z h.owner 5]) else
  bif aloneF h.serves 0 h.sh true then ({ h with owner := h.serves, sh := h.sh.set h.serves.toNat false }, [h.hand h.data false true])
  else ({ h with owner := -1, sh := h.sh.set h.serves.toNat true }, [h.hand h.data false false])
def shared (h : HM δ) (m : Msg δ) : HM δ × List (Msg δ) :=
  let h1 : HM δ := { h with sh := h.sh.set h.serves.toNat true }
  let d := if m.dirty || m.has then m.data else h.data
  let h2 : HM δ := if m.dirty then h1 else if m.has then { h1 with sh := h1.sh.set h.owner.toNat true, owner := -1 } else { h1 with owner := -1 }
  (h2, [h.hand d false false])
def invUp (s : Int) : Nat → List Bool → List Bool → List Bool
  | _, [], inv => inv
  | i, b :: bs, inv => invUp s (i + 1) bs (if b && (i : Int) != s then inv.set i true else inv)
def asks (z : δ) (h : HM δ) : Nat → Nat → List (Msg δ)
  | 0, _ => []
  | r + 1, i => (if h.inv.getD i false then [h.to_ z i 4] else []) ++ (if h.asked == (i : Int) then [h.to_ z i 6] else []) ++ asks z h r (i + 1)
def own (z : δ) (h : HM δ) : HM δ × List (Msg δ) :=
  let h1 : HM δ := { h with inv := invUp h.serves 0 h.sh h.inv }
  let h2 : HM δ := if h.owner != -1 && h.owner != h.serves then { h1 with asked := h.owner } else h1
  let l := asks z h2 h.harts.toNat 0
  if l.length > 0 then (h2, l) else owned z h2
def take (z : δ) (h : HM δ) (m : Msg δ) : HM δ × List (Msg δ) :=
  if !h.takes m then (h, [])
  else if m.kind == 1 then share z { h with busy := true, serves := m.frm, by_ := m.kind, back := zmsg z }
  else if m.kind == 2 then own z { h with busy := true, serves := m.frm, by_ := m.kind, back := zmsg z }
  else if m.kind == 3 then
    let h1 : HM δ := if m.frm == h.owner then { h with data := if m.dirty then m.data else h.data, owner := -1 } else h
    ({ h1 with sh := h1.sh.set m.frm.toNat false }, [h.to_ z m.frm 9])
  else if m.kind == 10 then owned z { h with inv := h.inv.set m.frm.toNat false }
  else if m.kind == 11 then
    let h1 : HM δ := { h with asked := -1, back := m }
    if h.by_ == 1 then shared h1 m else owned z h1
  else ({ h with busy := false }, [])
def new (z : δ) (line harts : Int) (d : δ) : HM δ :=
  ⟨line, harts, d, -1, List.replicate harts.toNat false, false, 0, 0, -1, List.replicate harts.toNat false, zmsg z⟩

/-- What holds of a home between messages. -/
structure WF (h : HM δ) : Prop where
  h1 : 1 ≤ h.harts
  h4 : h.harts ≤ 4
  sh : h.sh.length = h.harts.toNat
  inv : h.inv.length = h.harts.toNat
  serves0 : 0 ≤ h.serves
  serves : h.serves < h.harts
  owner0 : -1 ≤ h.owner
  owner : h.owner < h.harts
  asked : h.asked = -1 ∨ h.asked = h.owner
  idle : h.busy = false → h.asked = -1

theorem invUp_length (s : Int) : ∀ (bs : List Bool) (i : Nat) (inv : List Bool), (invUp s i bs inv).length = inv.length
  | [], _, _ => rfl
  | b :: bs, i, inv => by unfold invUp; rw [invUp_length s bs]; split <;> simp

theorem takes_frm {h : HM δ} {m : Msg δ} (ht : h.takes m = true) : 0 ≤ m.frm ∧ m.frm < h.harts := by
  unfold takes at ht
  repeat' split at ht
  all_goals first | cases ht | exact ⟨by omega, by omega⟩

theorem takes_back {h : HM δ} {m : Msg δ} (ht : h.takes m = true) (hk : m.kind = 11) : h.busy = true ∧ h.asked = m.frm := by
  unfold takes at ht
  rw [hk] at ht
  split at ht
  · cases ht
  split at ht
  · cases ht
  split at ht
  · cases ht
  split at ht
  · cases ht
  rw [if_neg (by decide), if_neg (by decide), if_pos (by decide)] at ht
  simpa using ht

theorem takes_ack {h : HM δ} {m : Msg δ} (ht : h.takes m = true) (hk : m.kind = 10) : h.busy = true := by
  unfold takes at ht
  rw [hk] at ht
  split at ht
  · cases ht
  split at ht
  · cases ht
  split at ht
  · cases ht
  split at ht
  · cases ht
  rw [if_neg (by decide), if_pos (by decide)] at ht
  simp at ht
  exact ht.1

theorem takes_new {h : HM δ} {m : Msg δ} (ht : h.takes m = true) (hk : (m.kind == 1 || m.kind == 2 || m.kind == 3) = true) : h.busy = false := by
  unfold takes at ht
  split at ht
  · cases ht
  split at ht
  · cases ht
  split at ht
  · cases ht
  split at ht
  · cases ht
  simpa using ht

theorem takes_done {h : HM δ} {m : Msg δ} (ht : h.takes m = true) (h1 : m.kind ≠ 1) (h2 : m.kind ≠ 2) (h3 : m.kind ≠ 3) (h10 : m.kind ≠ 10) (h11 : m.kind ≠ 11) : h.waits = false := by
  unfold takes at ht
  split at ht
  · cases ht
  split at ht
  · cases ht
  split at ht
  · cases ht
  split at ht
  · cases ht
  rw [if_neg (by simp [h1, h2, h3]), if_neg (by simp [h10]), if_neg (by simp [h11])] at ht
  split at ht
  · simp at ht; exact ht.1.2
  · cases ht

theorem owned_wf {z : δ} {h : HM δ} (W : h.WF) (_ : h.busy = true) : (h.owned z).1.WF := by
  unfold owned
  split
  · exact W
  · rename_i e
    have e1 : h.asked = -1 := by unfold waits at e; simp at e; exact e.1
    exact ⟨W.h1, W.h4, by simp [W.sh], W.inv, W.serves0, W.serves, by have := W.serves0; show -1 ≤ h.serves; omega, W.serves, .inl e1, fun _ => e1⟩

theorem take_wf {z : δ} {h : HM δ} (W : h.WF) (m : Msg δ) : (h.take z m).1.WF := by
  unfold take
  split
  · exact W
  rename_i ht
  have ht : h.takes m = true := by simpa using ht
  have hf := takes_frm ht
  split
  · rename_i hk
    have ha := W.idle (takes_new ht (by rw [hk]; rfl))
    unfold share
    split
    · exact ⟨W.h1, W.h4, W.sh, W.inv, hf.1, hf.2, W.owner0, W.owner, .inr rfl, fun e => by cases e⟩
    · cases aloneF m.frm 0 h.sh true
      · exact ⟨W.h1, W.h4, by simp [W.sh], W.inv, hf.1, hf.2, by show (-1 : Int) ≤ -1; omega, by have := W.h1; show (-1 : Int) < h.harts; omega, .inl ha, fun _ => ha⟩
      · exact ⟨W.h1, W.h4, by simp [W.sh], W.inv, hf.1, hf.2, by show -1 ≤ m.frm; omega, hf.2, .inl ha, fun _ => ha⟩
  split
  · rename_i hk
    have ha := W.idle (takes_new ht (by rw [hk]; simp))
    have hl := invUp_length m.frm h.sh 0 h.inv
    unfold own
    simp only
    have W2 : HM.WF (if (h.owner != -1 && h.owner != m.frm) = true then { h with busy := true, serves := m.frm, by_ := m.kind, back := zmsg z, inv := invUp m.frm 0 h.sh h.inv, asked := h.owner } else { h with busy := true, serves := m.frm, by_ := m.kind, back := zmsg z, inv := invUp m.frm 0 h.sh h.inv }) := by
      split
      · exact ⟨W.h1, W.h4, W.sh, hl.trans W.inv, hf.1, hf.2, W.owner0, W.owner, .inr rfl, fun e => by cases e⟩
      · exact ⟨W.h1, W.h4, W.sh, hl.trans W.inv, hf.1, hf.2, W.owner0, W.owner, .inl ha, fun e => by cases e⟩
    have hb : HM.busy (if (h.owner != -1 && h.owner != m.frm) = true then { h with busy := true, serves := m.frm, by_ := m.kind, back := zmsg z, inv := invUp m.frm 0 h.sh h.inv, asked := h.owner } else { h with busy := true, serves := m.frm, by_ := m.kind, back := zmsg z, inv := invUp m.frm 0 h.sh h.inv }) = true := by split <;> rfl
    generalize (if (h.owner != -1 && h.owner != m.frm) = true then ({ h with busy := true, serves := m.frm, by_ := m.kind, back := zmsg z, inv := invUp m.frm 0 h.sh h.inv, asked := h.owner } : HM δ) else { h with busy := true, serves := m.frm, by_ := m.kind, back := zmsg z, inv := invUp m.frm 0 h.sh h.inv }) = h2 at W2 hb ⊢
    split
    · exact W2
    · exact owned_wf W2 hb
  split
  · rename_i hk
    have ha := W.idle (takes_new ht (by rw [hk]; simp))
    have := W.h1
    by_cases e : (m.frm == h.owner) = true
    · simp only [e, if_true]
      exact ⟨W.h1, W.h4, by simp [W.sh], W.inv, W.serves0, W.serves, by show (-1 : Int) ≤ -1; omega, by show (-1 : Int) < h.harts; omega, .inl ha, fun _ => ha⟩
    · simp only [e]
      exact ⟨W.h1, W.h4, by simp [W.sh], W.inv, W.serves0, W.serves, W.owner0, W.owner, .inl ha, fun _ => ha⟩
  split
  · rename_i hk
    have hb := takes_ack ht (by simpa using hk)
    exact owned_wf ⟨W.h1, W.h4, W.sh, by simp [W.inv], W.serves0, W.serves, W.owner0, W.owner, W.asked, W.idle⟩ hb
  split
  · rename_i hk
    have hb := takes_back ht (by simpa using hk)
    have W1 : HM.WF { h with asked := -1, back := m } := ⟨W.h1, W.h4, W.sh, W.inv, W.serves0, W.serves, W.owner0, W.owner, .inl rfl, fun _ => rfl⟩
    have := W.h1
    simp only
    split
    · unfold shared
      simp only
      split
      · exact ⟨W.h1, W.h4, by simp [W.sh], W.inv, W.serves0, W.serves, W.owner0, W.owner, .inl rfl, fun _ => rfl⟩
      · split
        · exact ⟨W.h1, W.h4, by simp [W.sh], W.inv, W.serves0, W.serves, by show (-1 : Int) ≤ -1; omega, by show (-1 : Int) < h.harts; omega, .inl rfl, fun _ => rfl⟩
        · exact ⟨W.h1, W.h4, by simp [W.sh], W.inv, W.serves0, W.serves, by show (-1 : Int) ≤ -1; omega, by show (-1 : Int) < h.harts; omega, .inl rfl, fun _ => rfl⟩
    · exact owned_wf W1 hb.1
  · rename_i k1 k2 k3 k10 k11
    have hw := takes_done ht (by simpa using k1) (by simpa using k2) (by simpa using k3) (by simpa using k10) (by simpa using k11)
    have ha : h.asked = -1 := by unfold waits at hw; simp at hw; exact hw.1
    exact ⟨W.h1, W.h4, W.sh, W.inv, W.serves0, W.serves, W.owner0, W.owner, .inl ha, fun _ => ha⟩

theorem new_wf (z : δ) (line harts : Int) (d : δ) (h1 : 1 ≤ harts) (h4 : harts ≤ 4) : WF (new z line harts d) := by
  constructor <;> simp [new] <;> omega

end HM

end Go.Ev.Hom
