/-
  The document's home as plain functions, and that the program's home keeps to it.
  Conditions: none.
-/
import Derived.Test.YtohkplmfihhhnaaHm
set_option linter.unusedVariables false
namespace Go.Ev.Hom
open Go

structure XM (δ : Type) where
  line : Int
  harts : Int
  mem : δ
  owner : Int
  sh : List Int
  busy : Bool
  kind : Int
  frm : Int
  waits : List Int
  asked : Int
  back : Msg δ
  own : Bool

variable {δ : Type}

/-- Whose sign is set, in order. -/
def tIdx : Nat → List Bool → List Int
  | _, [] => []
  | i, b :: bs => if b then (i : Int) :: tIdx (i + 1) bs else tIdx (i + 1) bs

def ins : List Int → Int → List Int
  | [], v => [v]
  | a :: r, v => if a < v then a :: ins r v else if a == v then a :: r else v :: a :: r
def sortF (l : List Int) : List Int := l.foldl ins []
def wo (l : List Int) (n : Int) : List Int := l.filter (· != n)

namespace XM
def msg (z : δ) (x : XM δ) (kind to : Int) : Msg δ := ⟨kind, x.line, -1, to, z, false, false, false⟩
def dat (x : XM δ) (d : δ) (dirty alone : Bool) : Msg δ := ⟨7, x.line, -1, x.frm, d, true, dirty, alone⟩
def takes (x : XM δ) (m : Msg δ) : Bool :=
  if m.line != x.line then false else if m.to != -1 then false else if m.frm < 0 then false else if m.frm ≥ x.harts then false
  else if m.kind == 1 || m.kind == 2 || m.kind == 3 then !x.busy
  else if m.kind == 10 then x.busy && x.waits.contains m.frm
  else if m.kind == 11 then x.busy && x.asked == m.frm
  else if m.kind == 12 then x.busy && x.waits.length == 0 && decide (x.asked < 0) && x.frm == m.frm
  else false
def give (z : δ) (x : XM δ) : XM δ × List (Msg δ) :=
  ({ x with owner := x.frm, sh := [] }, [if x.own then x.msg z 8 x.frm else if x.back.has then x.dat x.back.data x.back.dirty true else x.dat x.mem false true])
def loop (z : δ) (x : XM δ) (r : Int) : Nat → Nat → Int → Int × List (Msg δ)
  | 0, _, asked => (asked, [])
  | n + 1, k, asked =>
    let t := loop z x r n (k + 1) (if (k : Int) == x.owner && (k : Int) != r then k else asked)
    (t.1, (if x.waits.contains (k : Int) && (k : Int) != x.owner then [x.msg z 4 k] else []) ++ (if (k : Int) == x.owner && (k : Int) != r then [x.msg z 6 k] else []) ++ t.2)
def getm (z : δ) (x : XM δ) (r : Int) : XM δ × List (Msg δ) :=
  let t := loop z x r x.harts.toNat 0 x.asked
  let x2 : XM δ := { x with asked := t.1, waits := if x.owner ≥ 0 then wo x.waits x.owner else x.waits }
  if x2.waits.length == 0 && decide (x2.asked < 0) then give z x2 else (x2, t.2)
def take (z : δ) (x : XM δ) (m : Msg δ) : XM δ × List (Msg δ) :=
  if m.kind == 1 then
    let x1 : XM δ := { x with busy := true, kind := m.kind, frm := m.frm }
    if x.owner ≥ 0 && x.owner != m.frm then ({ x1 with asked := x.owner }, [x.msg z 5 x.owner])
    else if (wo x.sh m.frm).length == 0 then ({ x1 with owner := m.frm, sh := [] }, [x1.dat x.mem false true])
    else ({ x1 with owner := -1, sh := sortF (x.sh ++ [m.frm]) }, [x1.dat x.mem false false])
  else if m.kind == 2 then
    getm z { x with busy := true, kind := m.kind, frm := m.frm, back := zmsg z, own := x.owner == m.frm, waits := wo x.sh m.frm } m.frm
  else if m.kind == 3 then
    let x1 : XM δ := if x.owner == m.frm then { x with mem := if m.dirty then m.data else x.mem, owner := -1 } else x
    ({ x1 with sh := wo x1.sh m.frm }, [x.msg z 9 m.frm])
  else if m.kind == 10 then
    let x1 : XM δ := { x with waits := wo x.waits m.frm }
    if x1.waits.length == 0 && decide (x1.asked < 0) then give z x1 else (x1, [])
  else if m.kind == 11 then
    let x1 : XM δ := { x with asked := -1 }
    if x.kind == 2 then
      let x2 : XM δ := { x1 with back := m }
      if x2.waits.length == 0 then give z x2 else (x2, [])
    else
      let x2 : XM δ := { x1 with sh := sortF (x.sh ++ [x.frm]) }
      if m.dirty then (x2, [x.dat m.data false false])
      else if m.has then ({ x2 with owner := -1, sh := sortF (x2.sh ++ [m.frm]) }, [x.dat m.data false false])
      else ({ x2 with owner := -1 }, [x.dat x.mem false false])
  else ({ x with busy := false }, [])
def new (z : δ) (line harts : Int) (d : δ) : XM δ := ⟨line, harts, d, -1, [], false, 0, 0, [], -1, zmsg z, false⟩
end XM

/-! ### What holds of lists of four at most -/
def lawB (l : List Bool) (r : Nat) : Bool :=
  (tIdx 0 l).contains (r : Int) == l.getD r false &&
  wo (tIdx 0 l) r == tIdx 0 (l.set r false) &&
  sortF (tIdx 0 l ++ [(r : Int)]) == tIdx 0 (l.set r true) &&
  HM.aloneF r 0 l true == ((wo (tIdx 0 l) r).length == 0) &&
  HM.invUp r 0 l (List.replicate l.length false) == l.set r false &&
  ((tIdx 0 l).length == 0) == !l.contains true &&
  (!(HM.aloneF r 0 l true) || l.set r false == List.replicate l.length false) &&
  (l.contains true || l == List.replicate l.length false) &&
  tIdx 0 (List.replicate l.length false) == [] &&
  decide ((tIdx 0 l).length ≤ l.length)

def bl : Nat → List (List Bool)
  | 0 => [[]]
  | n + 1 => (bl n).flatMap fun l => [true :: l, false :: l]

theorem bl_mem : ∀ l : List Bool, l ∈ bl l.length
  | [] => by simp [bl]
  | b :: l => by
    have := bl_mem l
    rw [List.length_cons]
    unfold bl
    rw [List.mem_flatMap]
    exact ⟨l, this, by cases b <;> simp⟩

theorem law_all : ([1, 2, 3, 4].all fun n => (bl n).all fun l => (List.range n).all fun r => lawB l r) = true := by decide +kernel

theorem law {l : List Bool} (h1 : 1 ≤ l.length) (h4 : l.length ≤ 4) {r : Int} (hr : 0 ≤ r) (hr' : r.toNat < l.length) : lawB l r.toNat = true := by
  have k := law_all
  rw [List.all_eq_true] at k
  have k1 := k l.length (by have : l.length = 1 ∨ l.length = 2 ∨ l.length = 3 ∨ l.length = 4 := by omega
                            rcases this with e | e | e | e <;> simp [e])
  rw [List.all_eq_true] at k1
  have k2 := k1 l (bl_mem l)
  rw [List.all_eq_true] at k2
  exact k2 r.toNat (by simpa using hr')

/-- The program's home keeps to the document's. -/
structure R (h : HM δ) (x : XM δ) : Prop where
  wf : h.WF
  line : x.line = h.line
  harts : x.harts = h.harts
  mem : x.mem = h.data
  owner : x.owner = h.owner
  sh : x.sh = tIdx 0 h.sh
  busy : x.busy = h.busy
  waits : x.waits = tIdx 0 h.inv
  asked : x.asked = h.asked
  osh : 0 ≤ h.owner → h.sh.getD h.owner.toNat false = false
  idle : h.busy = false → h.inv = List.replicate h.inv.length false
  srv : h.busy = true → x.kind = h.by_ ∧ x.frm = h.serves ∧ (h.by_ = 1 ∨ h.by_ = 2)
  get : h.busy = true → h.by_ = 1 → h.inv = List.replicate h.inv.length false
  ask : h.busy = true → h.asked ≠ -1 → h.owner ≠ h.serves
  gm : h.busy = true → h.by_ = 2 → h.waits = true → x.back = h.back ∧ x.own = (h.owner == h.serves)

structure Law (l : List Bool) (r : Int) : Prop where
  has : (tIdx 0 l).contains r = l.getD r.toNat false
  wo : wo (tIdx 0 l) r = tIdx 0 (l.set r.toNat false)
  sort : sortF (tIdx 0 l ++ [r]) = tIdx 0 (l.set r.toNat true)
  alone : HM.aloneF r 0 l true = ((Hom.wo (tIdx 0 l) r).length == 0)
  up : HM.invUp r 0 l (List.replicate l.length false) = l.set r.toNat false
  len : ((tIdx 0 l).length == 0) = !l.contains true
  clear : HM.aloneF r 0 l true = true → l.set r.toNat false = List.replicate l.length false
  none : l.contains true = false → l = List.replicate l.length false
  nil : tIdx 0 (List.replicate l.length false) = []
  short : (tIdx 0 l).length ≤ l.length

theorem law' {l : List Bool} (h1 : 1 ≤ l.length) (h4 : l.length ≤ 4) {r : Int} (hr : 0 ≤ r) (hr' : r.toNat < l.length) : Law l r := by
  have k := law h1 h4 hr hr'
  unfold lawB at k
  simp only [Bool.and_eq_true, beq_iff_eq] at k
  obtain ⟨⟨⟨⟨⟨⟨⟨⟨⟨k1, k2⟩, k3⟩, k4⟩, k5⟩, k6⟩, k7⟩, k8⟩, k9⟩, k10⟩ := k
  have e : ((r.toNat : Nat) : Int) = r := Int.toNat_of_nonneg hr
  rw [e] at k1 k2 k3 k4 k5 k7
  refine ⟨k1, k2, k3, k4, k5, k6, fun h => ?_, fun h => ?_, k9, by simpa using k10⟩
  · rw [h] at k7; simpa using k7
  · rw [h] at k8; simpa using k8

theorem takes_eq {h : HM δ} {x : XM δ} (r : R h x) (m : Msg δ) : x.takes m = h.takes m := by
  unfold XM.takes HM.takes
  rw [r.line, r.harts, r.busy, r.asked, r.waits]
  split
  · rfl
  split
  · rfl
  split
  · rfl
  split
  · rfl
  rename_i h1 h2 h3 h4
  have w1 := r.wf.inv
  have w2 := r.wf.h4
  have w3 := r.wf.h1
  have L := law' (l := h.inv) (r := m.frm) (by omega) (by omega) (by omega) (by omega)
  split
  · rfl
  split
  · rw [L.has]
  split
  · rfl
  split
  · rw [L.len]
    cases hb : h.busy with
    | false => rfl
    | true =>
      rw [(r.srv hb).2.1]
      unfold HM.waits
      have := r.wf.asked
      have := r.wf.owner0
      have e : decide (h.asked < 0) = !(h.asked != -1) := by
        by_cases hh : h.asked = -1
        · rw [hh]; rfl
        · have : ¬ h.asked < 0 := by omega
          simp [this, hh]
      rw [e]
      cases (h.asked != -1) <;> cases (h.inv.contains true) <;> simp
  · rfl

theorem contains_set_false {l : List Bool} (h : l.contains true = false) (i : Nat) : l.set i false = l := by
  have hf : ∀ b ∈ l, b = false := by
    intro b hb
    cases b with
    | false => rfl
    | true => exact absurd hb (by simpa using h)
  refine List.ext_getElem (by simp) fun k h1 h2 => ?_
  rw [List.getElem_set]
  split
  · rw [hf _ (List.getElem_mem h2)]
  · rfl

theorem replicate_contains (n : Nat) : (List.replicate n false).contains true = false := by
  simp [List.contains_eq_mem, List.mem_replicate]

theorem getD_replicate (n i : Nat) : (List.replicate n false).getD i false = false := by
  simp [List.getD, List.getElem?_replicate]
  split <;> rfl

theorem getD_lt {l : List Bool} {i : Nat} (h : i < l.length) : l.getD i false = l[i] := by simp [List.getD, h]

theorem getD_ge {l : List Bool} {i : Nat} (h : l.length ≤ i) : l.getD i false = false := by simp [List.getD, h]

theorem getD_set_ne {l : List Bool} {i j : Nat} (h : i ≠ j) (b : Bool) : (l.set i b).getD j false = l.getD j false := by
  simp [List.getD, h]

theorem getD_set_false {l : List Bool} {i j : Nat} (h : l.getD j false = false) : (l.set i false).getD j false = false := by
  by_cases e : i = j
  · subst e
    simp [List.getD, List.getElem?_set]
    split <;> rfl
  · rw [getD_set_ne e]; exact h

/-- Both end a GetM alike. -/
theorem give_owned {z : δ} {h : HM δ} {x : XM δ} (wf : h.WF) (line : x.line = h.line) (harts : x.harts = h.harts) (mem : x.mem = h.data) (busy : x.busy = h.busy) (hb : h.busy = true) (hw : h.waits = false) (waits : x.waits = tIdx 0 h.inv)
    (asked : x.asked = h.asked) (srv : x.kind = h.by_ ∧ x.frm = h.serves ∧ h.by_ = 2) (gm : x.back = h.back ∧ x.own = (h.owner == h.serves)) : (h.owned z).2 = (x.give z).2 ∧ R (h.owned z).1 (x.give z).1 := by
  have e : h.owned z = ({ h with owner := h.serves, sh := List.replicate h.sh.length false }, [if h.owner == h.serves then h.to_ z h.serves 8 else if h.back.has then h.hand h.back.data h.back.dirty true else h.hand h.data false true]) := by
    unfold HM.owned; rw [if_neg (by rw [hw]; simp)]
  constructor
  · rw [e]
    unfold XM.give
    simp only [gm.2, gm.1, srv.2.1, XM.msg, XM.dat, HM.to_, HM.hand, line, mem]
  · have W := HM.owned_wf (z := z) wf hb
    rw [e] at W ⊢
    have hc : h.inv.contains true = false := by unfold HM.waits at hw; simp at hw; simp; exact hw.2
    have w1 := wf.sh
    have w3 := wf.h1
    have w4 := wf.h4
    have w5 := wf.serves0
    have w6 := wf.serves
    have L := law' (l := h.sh) (r := h.serves) (by omega) (by omega) w5 (by omega)
    refine ⟨W, line, harts, mem, srv.2.1, ?_, busy, waits, asked, fun _ => getD_replicate _ _, fun hb' => ?_, fun _ => ⟨srv.1, srv.2.1, .inr srv.2.2⟩, fun _ h1 => ?_, fun _ h1 => absurd (show h.asked = -1 by unfold HM.waits at hw; simp at hw; exact hw.1) h1, fun _ _ hw' => ?_⟩
    · show ([] : List Int) = tIdx 0 (List.replicate h.sh.length false)
      rw [L.nil]
    · rw [show h.busy = false from hb'] at hb; cases hb
    · rw [show h.by_ = 1 from h1] at srv; exact absurd srv.2.2 (by decide)
    · rw [show h.waits = true from hw'] at hw; cases hw

theorem loop_asks (z : δ) {h : HM δ} {x : XM δ} {r : Int} (line : x.line = h.line) (hc : ∀ k : Nat, x.waits.contains (k : Int) = h.inv.getD k false) (ho : ∀ k : Nat, (k : Int) = x.owner → h.inv.getD k false = false)
    (ha : ∀ k : Nat, (h.asked == (k : Int)) = ((k : Int) == x.owner && (k : Int) != r)) : ∀ (n k : Nat) (a : Int), (XM.loop z x r n k a).2 = h.asks z n k
  | 0, _, _ => rfl
  | n + 1, k, a => by
    unfold XM.loop HM.asks
    simp only [loop_asks z line hc ho ha n (k + 1)]
    rw [ha k, hc k]
    have e : (h.inv.getD k false && (k : Int) != x.owner) = h.inv.getD k false := by
      by_cases e : (k : Int) = x.owner
      · rw [ho k e]; rfl
      · simp [e]
    rw [e]
    simp only [XM.msg, HM.to_, line]

theorem loop_asked (z : δ) (x : XM δ) (r : Int) : ∀ (n k : Nat) (a : Int), (XM.loop z x r n k a).1 = if (k : Int) ≤ x.owner ∧ x.owner < ((k + n : Nat) : Int) ∧ x.owner ≠ r then x.owner else a
  | 0, k, a => by
    unfold XM.loop
    rw [if_neg (by omega)]
  | n + 1, k, a => by
    unfold XM.loop
    simp only [loop_asked z x r n (k + 1)]
    by_cases e : (k : Int) = x.owner
    · have A : ¬(((k + 1 : Nat) : Int) ≤ x.owner ∧ x.owner < ((k + 1 + n : Nat) : Int) ∧ x.owner ≠ r) := by omega
      rw [if_neg A]
      by_cases e2 : x.owner = r
      · have B : ¬((k : Int) ≤ x.owner ∧ x.owner < ((k + (n + 1) : Nat) : Int) ∧ x.owner ≠ r) := by omega
        rw [if_neg B, if_neg (by rw [e, e2]; simp)]
      · have B : (k : Int) ≤ x.owner ∧ x.owner < ((k + (n + 1) : Nat) : Int) ∧ x.owner ≠ r := by omega
        rw [if_pos B, if_pos (by rw [e]; simp [e2])]
        exact e
    · have C : ¬((k : Int) == x.owner && (k : Int) != r) = true := by simp [e]
      rw [if_neg C]
      by_cases e3 : (((k + 1 : Nat) : Int) ≤ x.owner ∧ x.owner < ((k + 1 + n : Nat) : Int) ∧ x.owner ≠ r)
      · have B : (k : Int) ≤ x.owner ∧ x.owner < ((k + (n + 1) : Nat) : Int) ∧ x.owner ≠ r := by omega
        rw [if_pos e3, if_pos B]
      · have B : ¬((k : Int) ≤ x.owner ∧ x.owner < ((k + (n + 1) : Nat) : Int) ∧ x.owner ≠ r) := by omega
        rw [if_neg e3, if_neg B]

theorem step {z : δ} {h : HM δ} {x : XM δ} (r : R h x) (m : Msg δ) (ht : h.takes m = true) : (h.take z m).2 = (x.take z m).2 ∧ R (h.take z m).1 (x.take z m).1 := by
  have hf := HM.takes_frm ht
  have w1 := r.wf.sh
  have w2 := r.wf.inv
  have w3 := r.wf.h1
  have w4 := r.wf.h4
  have w5 := r.wf.owner0
  have w6 := r.wf.owner
  have LS := law' (l := h.sh) (r := m.frm) (by omega) (by omega) hf.1 (by omega)
  have LI := law' (l := h.inv) (r := m.frm) (by omega) (by omega) hf.1 (by omega)
  have WF := HM.take_wf (z := z) r.wf m
  unfold HM.take at WF ⊢
  unfold XM.take
  rw [if_neg (by rw [ht]; simp)] at WF ⊢
  by_cases k1 : (m.kind == 1) = true
  · -- GetS
    have hb := HM.takes_new ht (by rw [k1]; rfl)
    have ha := r.wf.idle hb
    have hi := r.idle hb
    have hk : m.kind = 1 := by simpa using k1
    rw [if_pos k1] at WF ⊢
    rw [if_pos k1]
    unfold HM.share at WF ⊢
    simp only at WF ⊢
    rw [r.owner]
    have eo : (decide (h.owner ≥ 0) && h.owner != m.frm) = (h.owner != -1 && h.owner != m.frm) := by
      congr 1
      by_cases e : h.owner = -1
      · rw [e]; rfl
      · have : h.owner ≥ 0 := by omega
        simp [e, this]
    by_cases e : (h.owner != -1 && h.owner != m.frm) = true
    · rw [if_pos e] at WF ⊢
      rw [if_pos (show (decide (h.owner ≥ 0) && h.owner != m.frm) = true by rw [eo]; exact e)]
      refine ⟨by simp [XM.msg, HM.to_, r.line], WF, r.line, r.harts, r.mem, rfl, r.sh, rfl, r.waits, rfl, r.osh, fun hb' => (by cases hb'), fun _ => ⟨rfl, rfl, .inl hk⟩, fun _ _ => hi, fun _ _ => (by simp at e; exact e.2), fun _ h2 => ?_⟩
      rw [show m.kind = 2 from h2] at hk; cases hk
    · rw [if_neg e] at WF ⊢
      rw [if_neg (show ¬(decide (h.owner ≥ 0) && h.owner != m.frm) = true by rw [eo]; exact e), r.sh, ← LS.alone]
      cases ea : HM.aloneF m.frm 0 h.sh true with
      | true =>
        rw [ea] at WF
        simp only [cond_true, if_true] at WF ⊢
        have ec := LS.clear ea
        refine ⟨by simp [XM.dat, HM.hand, r.line, r.mem], WF, r.line, r.harts, r.mem, rfl, ?_, rfl, r.waits, r.asked, fun _ => ?_, fun hb' => (by cases hb'), fun _ => ⟨rfl, rfl, .inl hk⟩, fun _ _ => hi, fun _ h1 => absurd ha h1, fun _ h2 => ?_⟩
        · show ([] : List Int) = tIdx 0 (h.sh.set m.frm.toNat false)
          rw [ec, LS.nil]
        · show (h.sh.set m.frm.toNat false).getD _ false = false
          rw [ec]; exact getD_replicate _ _
        · rw [show m.kind = 2 from h2] at hk; cases hk
      | false =>
        rw [ea] at WF
        simp only [cond_false, Bool.false_eq_true, if_false] at WF ⊢
        refine ⟨by simp [XM.dat, HM.hand, r.line, r.mem], WF, r.line, r.harts, r.mem, rfl, LS.sort, rfl, r.waits, r.asked, fun h0 => ?_, fun hb' => (by cases hb'), fun _ => ⟨rfl, rfl, .inl hk⟩, fun _ _ => hi, fun _ h1 => absurd ha h1, fun _ h2 => ?_⟩
        · have h0' : (0 : Int) ≤ -1 := h0; omega
        · rw [show m.kind = 2 from h2] at hk; cases hk
  rw [if_neg k1] at WF ⊢
  rw [if_neg k1]
  by_cases k2 : (m.kind == 2) = true
  · -- GetM
    have hb := HM.takes_new ht (by rw [k2]; simp)
    have ha := r.wf.idle hb
    have hi := r.idle hb
    have hk : m.kind = 2 := by simpa using k2
    rw [if_pos k2] at WF ⊢
    rw [if_pos k2]
    unfold HM.own at WF ⊢
    simp only at WF ⊢
    have eup : HM.invUp m.frm 0 h.sh h.inv = h.sh.set m.frm.toNat false := by
      rw [hi, w2, ← w1]; exact LS.up
    rw [eup] at WF ⊢
    -- the home behind the two loops
    generalize hh2 : (if (h.owner != -1 && h.owner != m.frm) = true then ({ h with busy := true, serves := m.frm, by_ := m.kind, back := zmsg z, inv := h.sh.set m.frm.toNat false, asked := h.owner } : HM δ) else { h with busy := true, serves := m.frm, by_ := m.kind, back := zmsg z, inv := h.sh.set m.frm.toNat false }) = h2 at WF ⊢
    have f : h2.line = h.line ∧ h2.harts = h.harts ∧ h2.data = h.data ∧ h2.owner = h.owner ∧ h2.sh = h.sh ∧ h2.busy = true ∧ h2.serves = m.frm ∧ h2.by_ = m.kind ∧ h2.inv = h.sh.set m.frm.toNat false ∧ h2.back = zmsg z ∧ h2.asked = (if h.owner ≠ -1 ∧ h.owner ≠ m.frm then h.owner else -1) := by
      subst hh2
      by_cases e : h.owner ≠ -1 ∧ h.owner ≠ m.frm
      · rw [if_pos (by simp [e]), if_pos e]
        exact ⟨rfl, rfl, rfl, rfl, rfl, rfl, rfl, rfl, rfl, rfl, rfl⟩
      · rw [if_neg (by simp; intro h1; exact Classical.byContradiction fun h3 => e ⟨h1, h3⟩), if_neg e]
        exact ⟨rfl, rfl, rfl, rfl, rfl, rfl, rfl, rfl, rfl, rfl, ha⟩
    obtain ⟨f1, f2, f3, f4, f5, f6, f7, f8, f9, f10, f11⟩ := f
    have W2 : h2.WF := by
      have a1 : h2.asked = -1 ∨ h2.asked = h2.owner := by
        rw [f11, f4]; split
        · exact .inr rfl
        · exact .inl rfl
      exact ⟨by rw [f2]; exact w3, by rw [f2]; exact w4, by rw [f5, f2]; exact w1, by rw [f9, f2]; simp [w1], by rw [f7]; exact hf.1, by rw [f7, f2]; exact hf.2, by rw [f4]; exact w5, by rw [f4, f2]; exact w6, a1, fun hb' => by rw [f6] at hb'; cases hb'⟩
    generalize hx1 : ({ x with busy := true, kind := m.kind, frm := m.frm, back := zmsg z, own := x.owner == m.frm, waits := wo x.sh m.frm } : XM δ) = x1
    have gx : x1.line = h.line ∧ x1.harts = h.harts ∧ x1.mem = h.data ∧ x1.owner = h.owner ∧ x1.sh = tIdx 0 h.sh ∧ x1.busy = true ∧ x1.kind = m.kind ∧ x1.frm = m.frm ∧ x1.waits = tIdx 0 (h.sh.set m.frm.toNat false) ∧ x1.back = zmsg z ∧ x1.own = (h.owner == m.frm) ∧ x1.asked = -1 := by
      subst hx1
      exact ⟨r.line, r.harts, r.mem, r.owner, r.sh, rfl, rfl, rfl, by rw [← LS.wo, ← r.sh], rfl, by show (x.owner == m.frm) = _; rw [r.owner], by show x.asked = -1; rw [r.asked, ha]⟩
    obtain ⟨g1, g2, g3, g4, g5, g6, g7, g8, g9, g10, g11, g12⟩ := gx
    have hinv : h2.inv.length = h.sh.length := by rw [f9]; simp
    have hosh : ∀ k : Nat, (k : Int) = x1.owner → h2.inv.getD k false = false := by
      intro k e
      rw [f9]
      refine getD_set_false ?_
      have := r.osh (by omega)
      rw [show k = h.owner.toNat by omega]; exact this
    have hcon : ∀ k : Nat, x1.waits.contains (k : Int) = h2.inv.getD k false := by
      intro k
      rw [g9, f9]
      by_cases hk' : k < h.sh.length
      · have := law' (l := h.sh.set m.frm.toNat false) (r := (k : Int)) (by simp; omega) (by simp; omega) (by omega) (by simpa using hk')
        rw [this.has]; simp
      · rw [show (h.sh.set m.frm.toNat false).getD k false = false from getD_ge (by rw [List.length_set]; omega)]
        have tb : ∀ (l : List Bool) (i : Nat) (y : Int), y ∈ tIdx i l → y < ((i + l.length : Nat) : Int) := by
          intro l
          induction l with
          | nil => intro i y hy; simp [tIdx] at hy
          | cons b l ih =>
            intro i y hy
            unfold tIdx at hy
            have := ih (i + 1) y
            rw [List.length_cons]
            split at hy
            · rcases List.mem_cons.1 hy with e | e
              · omega
              · have := this e; omega
            · have := this hy; omega
        cases hc : (tIdx 0 (h.sh.set m.frm.toNat false)).contains (k : Int) with
        | false => rfl
        | true =>
          have := tb _ 0 _ (by simpa using hc)
          simp at this
          omega
    have hasked : ∀ k : Nat, (h2.asked == (k : Int)) = ((k : Int) == x1.owner && (k : Int) != m.frm) := by
      intro k
      rw [f11, g4]
      by_cases e : h.owner ≠ -1 ∧ h.owner ≠ m.frm
      · rw [if_pos e]
        by_cases e2 : h.owner = (k : Int)
        · have : (k : Int) ≠ m.frm := by rw [← e2]; exact e.2
          simp [e2, this]
        · have : ¬ ((k : Int) = h.owner) := fun e3 => e2 e3.symm
          rw [beq_eq_false_iff_ne.2 e2, beq_eq_false_iff_ne.2 this]; rfl
      · rw [if_neg e]
        have e3 : ((-1 : Int) == (k : Int)) = false := beq_eq_false_iff_ne.2 (by omega)
        rw [e3]
        by_cases e4 : (k : Int) = h.owner
        · have : h.owner = m.frm := Classical.byContradiction fun h3 => e ⟨by omega, h3⟩
          have : (k : Int) = m.frm := by omega
          simp [this]
        · simp [e4]
    have eloop := loop_asks z (r := m.frm) (h := h2) (x := x1) (by rw [g1, f1]) hcon hosh hasked
    have eask := loop_asked z x1 m.frm x1.harts.toNat 0 x1.asked
    have eask2 : (XM.loop z x1 m.frm x1.harts.toNat 0 x1.asked).1 = h2.asked := by
      rw [eask, g4, f11, g2, g12]
      by_cases e : h.owner ≠ -1 ∧ h.owner ≠ m.frm
      · rw [if_pos e, if_pos (by omega)]
      · rw [if_neg e, if_neg (by omega)]
    unfold XM.getm
    simp only
    rw [eloop, eask2, g2]
    -- the owner does not wait
    have ewo : (if x1.owner ≥ 0 then wo x1.waits x1.owner else x1.waits) = tIdx 0 h2.inv := by
      rw [g9, f9, g4]
      split
      · rename_i h0
        have := law' (l := h.sh.set m.frm.toNat false) (r := h.owner) (by simp; omega) (by simp; omega) (by omega) (by simp; omega)
        rw [this.wo]
        congr 1
        have hz := getD_set_false (i := m.frm.toNat) (r.osh h0)
        refine List.ext_getElem (by simp) fun i h1 h2' => ?_
        rw [List.getElem_set]
        split
        · rename_i e
          subst e
          rw [getD_lt h2'] at hz
          exact hz.symm
        · rfl
      · rfl
    rw [ewo]
    have L2 := law' (l := h2.inv) (r := m.frm) (by omega) (by omega) hf.1 (by omega)
    have elen : ((tIdx 0 h2.inv).length == 0 && decide (h2.asked < 0)) = !h2.waits := by
      rw [L2.len]
      unfold HM.waits
      have : decide (h2.asked < 0) = !(h2.asked != -1) := by
        rw [f11]
        split
        · have e1 : ¬ h.owner < 0 := by omega
          have e2 : h.owner ≠ -1 := by omega
          simp [e1, e2]
        · rfl
      rw [this]
      cases (h2.asked != -1) <;> cases (h2.inv.contains true) <;> rfl
    rw [elen]
    -- there is somebody to be asked just if it waits
    have hlen : ((h2.asks z h.harts.toNat 0).length > 0) ↔ h2.waits = true := by
      have key : ∀ (n k : Nat), k + n = h.harts.toNat → ((h2.asks z n k).length > 0 ↔ ∃ j, k ≤ j ∧ j < k + n ∧ (h2.inv.getD j false = true ∨ h2.asked = (j : Int))) := by
        intro n
        induction n with
        | zero => intro k _; simp [HM.asks]; omega
        | succ n ih =>
          intro k hk'
          unfold HM.asks
          have := ih (k + 1) (by omega)
          simp only [List.length_append]
          constructor
          · intro hp
            by_cases c1 : h2.inv.getD k false = true
            · exact ⟨k, by omega, by omega, .inl c1⟩
            by_cases c2 : (h2.asked == (k : Int)) = true
            · exact ⟨k, by omega, by omega, .inr (by simpa using c2)⟩
            rw [if_neg c1, if_neg c2] at hp
            obtain ⟨j, h1, h2', h3⟩ := this.1 (by simpa using hp)
            exact ⟨j, by omega, by omega, h3⟩
          · rintro ⟨j, h1, h2', h3⟩
            by_cases ej : j = k
            · subst ej
              rcases h3 with h3 | h3
              · rw [if_pos h3]; simp only [List.length_singleton]; omega
              · rw [if_pos (show (h2.asked == (j : Int)) = true by simp [h3])]; simp only [List.length_singleton]; omega
            · have := this.2 ⟨j, by omega, by omega, h3⟩
              omega
      rw [key h.harts.toNat 0 (by omega)]
      unfold HM.waits
      constructor
      · rintro ⟨j, _, hj, h3 | h3⟩
        · have : h2.inv.contains true = true := by
            have hl : j < h2.inv.length := by omega
            rw [getD_lt hl] at h3
            simp only [List.contains_eq_mem, decide_eq_true_eq]
            rw [← h3]; exact List.getElem_mem hl
          rw [this]; simp
        · have : (h2.asked != -1) = true := by rw [h3]; simp
          rw [this]; rfl
      · intro hw
        simp only [Bool.or_eq_true] at hw
        rcases hw with hw | hw
        · rw [f11] at hw
          by_cases e : h.owner ≠ -1 ∧ h.owner ≠ m.frm
          · refine ⟨h.owner.toNat, by omega, by omega, .inr ?_⟩
            rw [f11, if_pos e]; omega
          · rw [if_neg e] at hw; cases hw
        · simp only [List.contains_eq_mem, decide_eq_true_eq] at hw
          obtain ⟨j, hj, e⟩ := List.mem_iff_getElem.1 hw
          exact ⟨j, by omega, by omega, .inl (by rw [getD_lt hj]; exact e)⟩
    cases hw : h2.waits with
    | true =>
      rw [if_pos (hlen.2 hw)] at WF ⊢
      simp only [Bool.not_true, Bool.false_eq_true, if_false]
      refine ⟨trivial, W2, by rw [f1]; exact g1, f2.symm, by rw [f3]; exact g3, by rw [f4]; exact g4, by rw [f5]; exact g5, by rw [f6]; exact g6, rfl, rfl, by rw [f4, f5]; exact r.osh, fun hb' => (by rw [f6] at hb'; cases hb'), fun _ => ⟨by rw [f8]; exact g7, by rw [f7]; exact g8, .inr (by rw [f8]; exact hk)⟩, fun _ h1 => ?_, fun _ h1 => (by rw [f11] at h1; rw [f4, f7]; intro h3; exact h1 (if_neg (fun h4 => h4.2 h3))), fun _ _ _ => ⟨by rw [f10]; exact g10, by rw [f4, f7]; exact g11⟩⟩
      rw [f8, hk] at h1; cases h1
    | false =>
      rw [if_neg (fun h => by rw [hlen.1 h] at hw; cases hw)]
      simp only [Bool.not_false, if_true]
      exact give_owned (z := z) W2 (by rw [f1]; exact g1) f2.symm (by rw [f3]; exact g3) (by rw [f6]; exact g6) f6 hw rfl rfl ⟨by rw [f8]; exact g7, by rw [f7]; exact g8, by rw [f8]; exact hk⟩ ⟨by rw [f10]; exact g10, by rw [f4, f7]; exact g11⟩
  rw [if_neg k2] at WF ⊢
  rw [if_neg k2]
  by_cases k3 : (m.kind == 3) = true
  · -- Put
    have hb := HM.takes_new ht (by rw [k3]; simp)
    rw [if_pos k3] at WF ⊢
    rw [if_pos k3]
    simp only at WF ⊢
    have eo : (x.owner == m.frm) = (m.frm == h.owner) := by rw [r.owner]; exact Bool.eq_iff_iff.2 (by simp; exact ⟨Eq.symm, Eq.symm⟩)
    rw [eo]
    by_cases e : (m.frm == h.owner) = true
    · simp only [e, if_true] at WF ⊢
      refine ⟨by simp [XM.msg, HM.to_, r.line], WF, r.line, r.harts, ?_, rfl, ?_, r.busy, r.waits, r.asked, fun h0 => (by have h0' : (0 : Int) ≤ -1 := h0; omega), r.idle, fun hb' => ?_, r.get, fun _ h1 => absurd (r.wf.idle hb) h1, fun hb' => ?_⟩
      · show (if m.dirty then m.data else x.mem) = _; rw [r.mem]
      · show wo x.sh m.frm = _; rw [r.sh, LS.wo]
      · rw [show h.busy = true from hb'] at hb; cases hb
      · rw [show h.busy = true from hb'] at hb; cases hb
    · simp only [e] at WF ⊢
      refine ⟨by simp [XM.msg, HM.to_, r.line], WF, r.line, r.harts, r.mem, r.owner, ?_, r.busy, r.waits, r.asked, fun h0 => getD_set_false (r.osh h0), r.idle, fun hb' => ?_, r.get, r.ask, fun hb' => ?_⟩
      · show wo x.sh m.frm = _; rw [r.sh, LS.wo]; rfl
      · rw [show h.busy = true from hb'] at hb; cases hb
      · rw [show h.busy = true from hb'] at hb; cases hb
  rw [if_neg k3] at WF ⊢
  rw [if_neg k3]
  by_cases k10 : (m.kind == 10) = true
  · -- Ack
    have hk : m.kind = 10 := by simpa using k10
    have hb := HM.takes_ack ht hk
    rw [if_pos k10] at WF ⊢
    rw [if_pos k10]
    simp only at WF ⊢
    have hin : h.inv.getD m.frm.toNat false = true := by
      unfold HM.takes at ht
      rw [hk] at ht
      split at ht
      · cases ht
      split at ht
      · cases ht
      split at ht
      · cases ht
      split at ht
      · cases ht
      rw [if_neg (by decide), if_pos (by decide)] at ht
      simp only [Bool.and_eq_true] at ht
      exact ht.2
    have hby : h.by_ = 2 := by
      rcases (r.srv hb).2.2 with e | e
      · have := r.get hb e
        rw [this, getD_replicate] at hin; cases hin
      · exact e
    have hwt : h.waits = true := by
      unfold HM.waits
      have : h.inv.contains true = true := by
        have hl : m.frm.toNat < h.inv.length := by omega
        rw [getD_lt hl] at hin
        simp only [List.contains_eq_mem, decide_eq_true_eq]
        rw [← hin]; exact List.getElem_mem hl
      rw [this]; simp
    have gm := r.gm hb hby hwt
    have hsrv := r.srv hb
    rw [r.waits, LI.wo, r.asked]
    have W1 : HM.WF { h with inv := h.inv.set m.frm.toNat false } := ⟨r.wf.h1, r.wf.h4, r.wf.sh, by simp [w2], r.wf.serves0, r.wf.serves, r.wf.owner0, r.wf.owner, r.wf.asked, r.wf.idle⟩
    have L2 := law' (l := h.inv.set m.frm.toNat false) (r := m.frm) (by simp; omega) (by simp; omega) hf.1 (by simp; omega)
    have elen : ((tIdx 0 (h.inv.set m.frm.toNat false)).length == 0 && decide (h.asked < 0)) = !HM.waits { h with inv := h.inv.set m.frm.toNat false } := by
      rw [L2.len]
      unfold HM.waits
      have : decide (h.asked < 0) = !(h.asked != -1) := by
        have := r.wf.asked
        by_cases hh : h.asked = -1
        · rw [hh]; rfl
        · have : ¬ h.asked < 0 := by omega
          simp [this, hh]
      rw [this]
      simp only
      cases (h.asked != -1) <;> cases ((h.inv.set m.frm.toNat false).contains true) <;> rfl
    rw [elen]
    cases hw : HM.waits { h with inv := h.inv.set m.frm.toNat false } with
    | true =>
      have e : HM.owned z { h with inv := h.inv.set m.frm.toNat false } = ({ h with inv := h.inv.set m.frm.toNat false }, []) := by
        unfold HM.owned; rw [if_pos hw]
      rw [e] at WF ⊢
      simp only [Bool.not_true, Bool.false_eq_true, if_false]
      refine ⟨trivial, W1, r.line, r.harts, r.mem, r.owner, r.sh, r.busy, rfl, rfl, r.osh, fun hb' => ?_, fun _ => hsrv, fun _ h1 => ?_, r.ask, fun _ _ _ => gm⟩
      · rw [show h.busy = false from hb'] at hb; cases hb
      · rw [show h.by_ = 1 from h1] at hby; cases hby
    | false =>
      simp only [Bool.not_false, if_true]
      exact give_owned (z := z) W1 r.line r.harts r.mem r.busy hb hw rfl rfl ⟨hsrv.1, hsrv.2.1, hby⟩ gm
  rw [if_neg k10] at WF ⊢
  rw [if_neg k10]
  by_cases k11 : (m.kind == 11) = true
  · -- Back
    have hk : m.kind = 11 := by simpa using k11
    obtain ⟨hb, hask⟩ := HM.takes_back ht hk
    have hsrv := r.srv hb
    have hao : h.asked = h.owner := by have := r.wf.asked; omega
    rw [if_pos k11] at WF ⊢
    rw [if_pos k11]
    simp only at WF ⊢
    rw [hsrv.1]
    rcases hsrv.2.2 with e | e
    · -- by GetS
      rw [if_pos (show (h.by_ == 1) = true by rw [e]; rfl)] at WF ⊢
      rw [if_neg (show ¬(h.by_ == 2) = true by rw [e]; decide)]
      have hi := r.get hb e
      have h0 : 0 ≤ h.serves := r.wf.serves0
      have h0' := r.wf.serves
      have LV := law' (l := h.sh) (r := h.serves) (by omega) (by omega) h0 (by omega)
      have LF := law' (l := h.sh.set h.serves.toNat true) (r := m.frm) (by simp; omega) (by simp; omega) hf.1 (by simp; omega)
      unfold HM.shared at WF ⊢
      simp only at WF ⊢
      rw [hsrv.2.1, r.sh, LV.sort]
      cases hd : m.dirty with
      | true =>
        rw [hd] at WF
        simp only [if_true, Bool.true_or] at WF ⊢
        refine ⟨by simp [XM.dat, HM.hand, r.line, hsrv.2.1], WF, r.line, r.harts, r.mem, r.owner, rfl, r.busy, r.waits, rfl, fun h1 => ?_, fun hb' => ?_, fun _ => ⟨rfl, rfl, hsrv.2.2⟩, fun _ _ => hi, fun _ h1 => absurd rfl h1, fun _ h2 => ?_⟩
        · show (h.sh.set h.serves.toNat true).getD h.owner.toNat false = false
          have hne := r.ask hb (by omega)
          rw [getD_set_ne (by omega)]
          exact r.osh h1
        · rw [show h.busy = false from hb'] at hb; cases hb
        · rw [show h.by_ = 2 from h2] at e; cases e
      | false =>
        rw [hd] at WF
        simp only [Bool.false_eq_true, if_false, Bool.false_or] at WF ⊢
        cases hh : m.has with
        | true =>
          rw [hh] at WF
          simp only [if_true] at WF ⊢
          refine ⟨by simp [XM.dat, HM.hand, r.line, hsrv.2.1], WF, r.line, r.harts, r.mem, rfl, ?_, r.busy, r.waits, rfl, fun h1 => (by have h0' : (0 : Int) ≤ -1 := h1; omega), fun hb' => ?_, fun _ => ⟨rfl, rfl, hsrv.2.2⟩, fun _ _ => hi, fun _ h1 => absurd rfl h1, fun _ h2 => ?_⟩
          · show sortF (tIdx 0 (h.sh.set h.serves.toNat true) ++ [m.frm]) = tIdx 0 ((h.sh.set h.serves.toNat true).set h.owner.toNat true)
            rw [LF.sort, show h.owner = m.frm by omega]
          · rw [show h.busy = false from hb'] at hb; cases hb
          · rw [show h.by_ = 2 from h2] at e; cases e
        | false =>
          rw [hh] at WF
          simp only [Bool.false_eq_true, if_false] at WF ⊢
          refine ⟨by simp [XM.dat, HM.hand, r.line, r.mem, hsrv.2.1], WF, r.line, r.harts, r.mem, rfl, rfl, r.busy, r.waits, rfl, fun h1 => (by have h0' : (0 : Int) ≤ -1 := h1; omega), fun hb' => ?_, fun _ => ⟨rfl, rfl, hsrv.2.2⟩, fun _ _ => hi, fun _ h1 => absurd rfl h1, fun _ h2 => ?_⟩
          · rw [show h.busy = false from hb'] at hb; cases hb
          · rw [show h.by_ = 2 from h2] at e; cases e
    · -- by GetM
      rw [if_neg (show ¬(h.by_ == 1) = true by rw [e]; decide)] at WF ⊢
      rw [if_pos (show (h.by_ == 2) = true by rw [e]; rfl)]
      have hwt : h.waits = true := by
        unfold HM.waits
        have : (h.asked != -1) = true := by simp; omega
        rw [this]; rfl
      have gm := r.gm hb e hwt
      have W1 : HM.WF { h with asked := -1, back := m } := ⟨r.wf.h1, r.wf.h4, r.wf.sh, r.wf.inv, r.wf.serves0, r.wf.serves, r.wf.owner0, r.wf.owner, .inl rfl, fun _ => rfl⟩
      rw [r.waits, LI.len]
      have ew : HM.waits { h with asked := -1, back := m } = h.inv.contains true := by
        unfold HM.waits; rfl
      cases hw : h.inv.contains true with
      | true =>
        have e2 : HM.owned z { h with asked := -1, back := m } = ({ h with asked := -1, back := m }, []) := by
          unfold HM.owned; rw [if_pos (by rw [ew]; exact hw)]
        rw [e2] at WF ⊢
        simp only [Bool.not_true, Bool.false_eq_true, if_false]
        refine ⟨trivial, W1, r.line, r.harts, r.mem, r.owner, r.sh, r.busy, rfl, rfl, r.osh, fun hb' => ?_, fun _ => ⟨rfl, hsrv.2.1, hsrv.2.2⟩, fun _ h1 => ?_, fun _ h1 => absurd rfl h1, fun _ _ _ => ⟨rfl, gm.2⟩⟩
        · rw [show h.busy = false from hb'] at hb; cases hb
        · rw [show h.by_ = 1 from h1] at e; cases e
      | false =>
        simp only [Bool.not_false, if_true]
        exact give_owned (z := z) W1 r.line r.harts r.mem r.busy hb (by rw [ew]; exact hw) rfl rfl ⟨rfl, hsrv.2.1, e⟩ ⟨rfl, gm.2⟩
  · -- Done
    rw [if_neg k11] at WF ⊢
    rw [if_neg k11]
    have hw := HM.takes_done ht (by simpa using k1) (by simpa using k2) (by simpa using k3) (by simpa using k10) (by simpa using k11)
    have hc : h.inv.contains true = false := by unfold HM.waits at hw; simp at hw; simp; exact hw.2
    exact ⟨rfl, WF, r.line, r.harts, r.mem, r.owner, r.sh, rfl, r.waits, r.asked, r.osh, fun _ => LI.none hc, fun hb' => (by cases hb'), fun hb' => (by cases hb'), fun hb' => (by cases hb'), fun hb' => (by cases hb')⟩

end Go.Ev.Hom
