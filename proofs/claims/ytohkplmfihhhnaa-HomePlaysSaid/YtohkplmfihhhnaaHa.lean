/-
  Whoever asks, in turn: the plain law of HomeAlone, checked over all homes that are at rest.
  Conditions: none.
-/
import Derived.Test.YtohkplmfihhhnaaHm
set_option linter.unusedVariables false
namespace Go.Ev.Hom
open Go

section
variable {δ : Type}

/-- What a hart answers, or none: the statement fails. -/
def react (z : δ) (same : δ → Bool) (now : δ) (r : Int) (write : Bool) (m : Msg δ) (st : List Int) (got : Bool) : Option (Msg δ × List Int × Bool) :=
  if m.to < 0 then none else if m.to > 3 then none else
  if m.kind == 4 then some (⟨10, 0, m.to, -1, z, false, false, false⟩, st.set m.to.toNat 0, got)
  else if m.kind == 5 || m.kind == 6 then
    if st.getD m.to.toNat 0 == 0 || st.getD m.to.toNat 0 == 1 then none else
    let d := st.getD m.to.toNat 0 == 4 || st.getD m.to.toNat 0 == 3
    some (⟨11, 0, m.to, -1, now, true, d, false⟩, st.set m.to.toNat (if m.kind == 6 then 0 else if d then 3 else 1), got)
  else if m.kind == 7 || m.kind == 8 then
    if m.to != r || (m.kind == 7 && !same m.data) || (m.kind == 8 && st.getD r.toNat 0 != 3) then none else
    some (⟨12, 0, m.to, -1, z, false, false, false⟩, if write || m.alone then (st.set r.toNat 1).set r.toNat 2 else st.set r.toNat 1, true)
  else none

def run (z : δ) (same : δ → Bool) (now : δ) (r : Int) (write : Bool) : Nat → HM δ → List Int → List (Msg δ) → Bool → Option (HM δ × List Int × Bool)
  | 0, h, st, _, got => some (h, st, got)
  | _ + 1, h, st, [], got => some (h, st, got)
  | f + 1, h, st, m :: out, got =>
    match react z same now r write m st got with
    | none => none
    | some (a, st', got') => bif h.takes a then run z same now r write f (h.take z a).1 st' (out ++ (h.take z a).2) got' else none

/-- The message of a wish. -/
def ask (z : δ) (r : Int) (write : Bool) : Msg δ := ⟨if write then 2 else 1, 0, r, -1, z, false, false, false⟩

def Msg.map {ε : Type} (f : δ → ε) (m : Msg δ) : Msg ε := ⟨m.kind, m.line, m.frm, m.to, f m.data, m.has, m.dirty, m.alone⟩
def HM.map {ε : Type} (f : δ → ε) (h : HM δ) : HM ε := ⟨h.line, h.harts, f h.data, h.owner, h.sh, h.busy, h.serves, h.by_, h.asked, h.inv, h.back.map f⟩
def mapO {ε : Type} (f : δ → ε) (r : HM δ × List (Msg δ)) : HM ε × List (Msg ε) := (r.1.map f, r.2.map (Msg.map f))

theorem waits_map {ε : Type} (f : δ → ε) (h : HM δ) : (h.map f).waits = h.waits := rfl
theorem takes_map {ε : Type} (f : δ → ε) (h : HM δ) (m : Msg δ) : (h.map f).takes (m.map f) = h.takes m := rfl
theorem owned_map {ε : Type} (f : δ → ε) (z : δ) (h : HM δ) : (h.map f).owned (f z) = mapO f (h.owned z) := by
  unfold HM.owned
  rw [waits_map]
  split
  · rfl
  · by_cases e1 : (h.owner == h.serves) = true
    · rw [if_pos e1, if_pos (show ((h.map f).owner == (h.map f).serves) = true from e1)]; rfl
    · rw [if_neg e1, if_neg (show ¬((h.map f).owner == (h.map f).serves) = true from e1)]
      by_cases e2 : h.back.has = true
      · rw [if_pos e2, if_pos (show (h.map f).back.has = true from e2)]; rfl
      · rw [if_neg e2, if_neg (show ¬(h.map f).back.has = true from e2)]; rfl
theorem asks_map {ε : Type} (f : δ → ε) (z : δ) (h : HM δ) : ∀ r i, (h.map f).asks (f z) r i = (h.asks z r i).map (Msg.map f)
  | 0, _ => rfl
  | r + 1, i => by
    unfold HM.asks
    rw [asks_map f z h r (i + 1)]
    simp only [List.map_append]
    congr 1
    congr 1
    · by_cases e : h.inv.getD i false = true
      · rw [if_pos e, if_pos (show (h.map f).inv.getD i false = true from e)]; rfl
      · rw [if_neg e, if_neg (show ¬(h.map f).inv.getD i false = true from e)]; rfl
    · by_cases e : (h.asked == (i : Int)) = true
      · rw [if_pos e, if_pos (show ((h.map f).asked == (i : Int)) = true from e)]; rfl
      · rw [if_neg e, if_neg (show ¬((h.map f).asked == (i : Int)) = true from e)]; rfl
theorem own_map {ε : Type} (f : δ → ε) (z : δ) (h : HM δ) : (h.map f).own (f z) = mapO f (h.own z) := by
  unfold HM.own
  simp only
  have e : (if ((h.map f).owner != -1 && (h.map f).owner != (h.map f).serves) = true then ({ h.map f with inv := HM.invUp (h.map f).serves 0 (h.map f).sh (h.map f).inv, asked := (h.map f).owner } : HM ε) else { h.map f with inv := HM.invUp (h.map f).serves 0 (h.map f).sh (h.map f).inv })
      = HM.map f (if (h.owner != -1 && h.owner != h.serves) = true then { h with inv := HM.invUp h.serves 0 h.sh h.inv, asked := h.owner } else { h with inv := HM.invUp h.serves 0 h.sh h.inv }) := by
    show (if (h.owner != -1 && h.owner != h.serves) = true then _ else _) = _
    split <;> rfl
  rw [e]
  generalize (if (h.owner != -1 && h.owner != h.serves) = true then ({ h with inv := HM.invUp h.serves 0 h.sh h.inv, asked := h.owner } : HM δ) else { h with inv := HM.invUp h.serves 0 h.sh h.inv }) = h2
  rw [asks_map, List.length_map, owned_map]
  show (if (h2.asks z h.harts.toNat 0).length > 0 then _ else _) = _
  split
  · rfl
  · rfl
theorem share_map {ε : Type} (f : δ → ε) (z : δ) (h : HM δ) : (h.map f).share (f z) = mapO f (h.share z) := by
  unfold HM.share
  show (if (h.owner != -1 && h.owner != h.serves) = true then _ else bif HM.aloneF h.serves 0 h.sh true then _ else _) = _
  split
  · rfl
  · cases HM.aloneF h.serves 0 h.sh true <;> rfl
theorem shared_map {ε : Type} (f : δ → ε) (h : HM δ) (m : Msg δ) : (h.map f).shared (m.map f) = mapO f (h.shared m) := by
  obtain ⟨k, l, fr, to, d, has, dirty, al⟩ := m
  cases has <;> cases dirty <;> rfl
theorem take_map {ε : Type} (f : δ → ε) (z : δ) (h : HM δ) (m : Msg δ) : (h.map f).take (f z) (m.map f) = mapO f (h.take z m) := by
  unfold HM.take
  rw [takes_map]
  show (if (!h.takes m) = true then _ else if (m.kind == 1) = true then _ else if (m.kind == 2) = true then _ else if (m.kind == 3) = true then _ else if (m.kind == 10) = true then _ else if (m.kind == 11) = true then _ else _) = _
  split
  · rfl
  split
  · exact share_map f z { h with busy := true, serves := m.frm, by_ := m.kind, back := zmsg z }
  split
  · exact own_map f z { h with busy := true, serves := m.frm, by_ := m.kind, back := zmsg z }
  split
  · show ((_ : HM ε), _) = _
    by_cases e : (m.frm == h.owner) = true
    · have e' : (Msg.frm (m.map f) == HM.owner (h.map f)) = true := e
      simp only [e, e', if_true]
      cases hd : m.dirty <;> simp [mapO, HM.map, Msg.map, hd, HM.to_]
    · have e' : ¬ (Msg.frm (m.map f) == HM.owner (h.map f)) = true := e
      simp only [e, e']
      rfl
  split
  · exact owned_map f z { h with inv := h.inv.set m.frm.toNat false }
  split
  · by_cases e : (h.by_ == 1) = true
    · rw [if_pos (show ((h.map f).by_ == 1) = true from e)]
      simp only [e, if_true]
      exact shared_map f { h with asked := -1, back := m } m
    · rw [if_neg (show ¬((h.map f).by_ == 1) = true from e)]
      simp only [e]
      exact owned_map f z { h with asked := -1, back := m }
  · rfl

def mapR {ε : Type} (f : δ → ε) : Option (HM δ × List Int × Bool) → Option (HM ε × List Int × Bool)
  | none => none
  | some (h, st, g) => some (h.map f, st, g)

def mapA {ε : Type} (f : δ → ε) : Option (Msg δ × List Int × Bool) → Option (Msg ε × List Int × Bool)
  | none => none
  | some (h, st, g) => some (h.map f, st, g)

theorem react_map {ε : Type} (f : δ → ε) (z : δ) (same : δ → Bool) (same' : ε → Bool) (hs : ∀ d, same' (f d) = same d) (now : δ) (r : Int) (write : Bool) (m : Msg δ) (st : List Int) (got : Bool) :
    react (f z) same' (f now) r write (m.map f) st got = mapA f (react z same now r write m st got) := by
  unfold react
  simp only [Msg.map, hs]
  repeat' split
  all_goals first | rfl | simp_all [mapA, Msg.map]

theorem run_map {ε : Type} (f : δ → ε) (z : δ) (same : δ → Bool) (same' : ε → Bool) (hs : ∀ d, same' (f d) = same d) (now : δ) (r : Int) (write : Bool) :
    ∀ (n : Nat) (h : HM δ) (st : List Int) (out : List (Msg δ)) (got : Bool), run (f z) same' (f now) r write n (h.map f) st (out.map (Msg.map f)) got = mapR f (run z same now r write n h st out got)
  | 0, _, _, _, _ => by unfold run; rfl
  | n + 1, _, _, [], _ => by unfold run; rfl
  | n + 1, h, st, m :: out, got => by
    rw [List.map_cons]
    unfold run
    rw [react_map f z same same' hs]
    cases react z same now r write m st got with
    | none => rfl
    | some x =>
      obtain ⟨a, st', got'⟩ := x
      simp only [mapA, takes_map, take_map]
      cases h.takes a with
      | false => rfl
      | true =>
        simp only [cond_true]
        rw [← run_map f z same same' hs now r write n, List.map_append]
        rfl

/-! ### All homes at rest -/
def bools4 : List (List Bool) := [true, false].flatMap fun a => [true, false].flatMap fun b => [true, false].flatMap fun c => [true, false].map fun d => [a, b, c, d]
def none4 : List Bool := [false, false, false, false]
/-- Who owns, who shares, and the harts' states. -/
def cfg : List (Int × List Bool × List Int) :=
  (bools4.map fun sh => ((-1 : Int), sh, sh.map fun b => if b then (1 : Int) else 0)) ++
  ([0, 1, 2, 3].flatMap fun o : Nat => [((o : Int), none4, ([0, 0, 0, 0] : List Int).set o 2), ((o : Int), none4, ([0, 0, 0, 0] : List Int).set o 4)] ++
    ((bools4.filter fun sh => !sh.getD o false).map fun sh => ((o : Int), sh, (sh.map fun b => if b then (1 : Int) else 0).set o 3)))

def rest (z d : δ) (o : Int) (sh : List Bool) : HM δ := ⟨0, 4, d, o, sh, false, 0, 0, -1, none4, zmsg z⟩
def dirtySt (st : List Int) : Bool := st.contains 3 || st.contains 4
def skips (st : List Int) (r : Int) (w : Bool) : Bool := st.getD r.toNat 0 == 4 || st.getD r.toNat 0 == 2 || (!w && st.getD r.toNat 0 != 0)
def aloneOk (st : List Int) (r : Int) : Bool := [0, 1, 2, 3].all fun k : Nat => (k : Int) == r || st.getD k 0 == 0 || !(st.getD r.toNat 0 == 4 || st.getD r.toNat 0 == 2)
def after (st : List Int) (r : Int) (w : Bool) : List Int := if w then st.set r.toNat 4 else st
def restOk (h : HM δ) (st : List Int) : Bool := h.line == 0 && h.harts == 4 && !h.busy && h.asked == -1 && h.inv == none4 && cfg.contains (h.owner, h.sh, st)

def good (z d : Bool) (c : Int × List Bool × List Int) (r : Int) (w : Bool) : Bool :=
  skips c.2.2 r w || !(d || dirtySt c.2.2) ||
  (let t := (rest z d c.1 c.2.1).take z (ask z r w)
   match run z (fun b => b) true r w 10 t.1 c.2.2 t.2 false with
   | none => false
   | some (h, st, g) => g && restOk h (after st r w) && (!w && h.data || dirtySt (after st r w)) && aloneOk (after st r w) r)

theorem good_all : (cfg.all fun c => [true, false].all fun z => [true, false].all fun d => [0, 1, 2, 3].all fun r => [true, false].all fun w => good z d c r w) = true := by decide +kernel

end

end Go.Ev.Hom
