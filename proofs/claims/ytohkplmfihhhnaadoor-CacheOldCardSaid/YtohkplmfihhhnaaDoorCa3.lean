/-
  The cache: 'last', and what lies where.
  Conditions: none.
-/
import Derived.Test.YtohkplmfihhhnaaDoorCa2
import Derived.Test.YtohkplmfihhhnaaDoorErC
set_option linter.unusedVariables false
set_option linter.unusedSimpArgs false
set_option maxRecDepth 100000
namespace Go.Ev
open Go

/-- A set's entries, apart from the sets' own block. -/
structure IsE (σ : Store) (sb : Nat) (q : SetH) : Prop where
  l : IsL Ent.cells 6 σ q.1.1 q.1.2.1 q.2
  c : q.1.2.1 ≤ q.1.2.2
  f : q.1.2.1 ≠ 0 → ∀ ad, q.1.1 = some ad → ad.block ≠ sb

/-- But for one block, what was known is known. -/
def Md (sb : Nat) (σ σ' : Store) : Prop := ∀ b k, b ≠ sb → σ b = some k → σ' b = some k

theorem Md.of_le {sb : Nat} {σ σ' : Store} (h : σ.le σ') : Md sb σ σ' := fun b k _ hb => h b k hb
theorem Md.trans {sb : Nat} {σ σ' σ'' : Store} (h : Md sb σ σ') (k : Md sb σ' σ'') : Md sb σ σ'' := fun b x hb hx => k b x hb (h b x hb hx)

theorem IsE.keep {σ σ' : Store} {sb : Nat} {q : SetH} (h : IsE σ sb q) (hk : Md sb σ σ') : IsE σ' sb q := by
  refine ⟨⟨h.l.1, fun hn => ?_⟩, h.c, h.f⟩
  obtain ⟨b, o, k, e, hb, r⟩ := h.l.2 hn
  exact ⟨b, o, k, e, hk b k (h.f hn _ e) hb, r⟩

theorem Own.isE {σ0 σ : Store} {a : Option Addr} {n c : Nat} {xs : List Ent} (h : Own Ent.cells 6 σ0 σ a n c xs) {sb : Nat} (hsb : σ0 sb ≠ none) : IsE σ sb ((a, n, c), xs) := by
  refine ⟨h.isL, h.2.1, fun hn ad e => ?_⟩
  have h2 := h.2.1
  obtain ⟨b, o, k, e', hb, _⟩ := h.2.2 (by show c ≠ 0; have : n ≠ 0 := hn; omega)
  have e2 : a = some ad := e
  rw [e'] at e2
  cases e2
  rintro rfl
  exact hsb hb

/-- A set's entries lie where nothing was known. -/
def Fresh (σ : Store) (q : SetH) : Prop := q.1.2.1 ≠ 0 → ∀ ad, q.1.1 = some ad → σ ad.block = none
theorem Own.fr {σ0 σ : Store} {a : Option Addr} {n c : Nat} {xs : List Ent} (h : Own Ent.cells 6 σ0 σ a n c xs) : Fresh σ0 ((a, n, c), xs) := fun hn ad e => by
  have h2 := h.2.1
  obtain ⟨b, o, k, e', hb, _⟩ := h.2.2 (by show c ≠ 0; have : n ≠ 0 := hn; omega)
  have e2 : a = some ad := e
  rw [e'] at e2
  cases e2
  exact hb

/-- What a call did to a cache: a set's entries were there, or lie where nothing was known. -/
structure Chg (sb : Nat) (σ σ' : Store) (ps ps' : List SetH) : Prop where
  md : Md sb σ σ'
  fr : ∀ q ∈ ps', q ∈ ps ∨ Fresh σ q

theorem Chg.set {sb : Nat} {σ σ' : Store} {ps : List SetH} {i : Nat} {q' : SetH} (hm : Md sb σ σ') (hf : Fresh σ q') : Chg sb σ σ' ps (ps.set i q') :=
  ⟨hm, fun q hq => (List.mem_or_eq_of_mem_set hq).imp id fun e => by rw [e]; exact hf⟩

theorem some_ne {σ σ' : Store} (h : σ.le σ') : ∀ b, σ b ≠ none → σ' b ≠ none := fun b hb => by
  obtain ⟨k, hk⟩ := Option.ne_none_iff_exists'.1 hb
  rw [h b k hk]; simp

theorem Kept.le {σ0 σ σ' : Store} (h : Kept σ0 σ σ') (hl : σ0.le σ) : σ0.le σ' := fun b k hk => by
  rw [h.same b (by rw [hk]; simp)]; exact hl b k hk

theorem last_j4 {σ σ1 : Store} {sb so : Nat} {A : Option Addr} {N C : Nat} {xs : List Ent} (ho : Own Ent.cells 6 σ σ1 A N C xs) (hl : σ.le σ1) {k0 : Blk} (hsb : σ sb = some k0) (hfz : k0.fz = (0, 0)) (hso : so < k0.cells.length)
    (hn : xs.length ≤ 1000) (e : Ent) {K : Value → Store → Prop}
    (hK : ∀ q' σ', q'.2 = xs ++ [e] → IsE σ' sb q' → σ' sb = some ⟨k0.ty, k0.cells.set so (hdr q'), (0, 0)⟩ → Md sb σ σ' → Fresh σ q' → K (.tuple #[]) σ') :
    cache_last.j4 K sb so A N C e.line e.state e.a e.b e.c e.d σ1 := by
  have hN := ho.1
  refine Own.app (enc := Ent.cells) entLen entOne ho (some_ne hl) rfl (ys := [e]) rfl rfl (by simp; omega) (by simp; omega) fun a' n' c' σ2 ho2 hk2 => ?_
  have hl2 := hk2.le hl
  refine ⟨rfl, rfl, k0, hl2 _ _ hsb, by omega, hfz, hK ((a', n', c'), xs ++ [e]) _ rfl ?_ set_eq ?_ ho2.fr⟩
  · exact (ho2.isE (by rw [hsb]; simp)).keep fun b k hb hk => by rw [set_diff hb]; exact hk
  · exact fun b k hb hk => by rw [set_diff hb]; exact hl2 b k hk

theorem last_spec {σ : Store} {sb so : Nat} {q : SetH} (hq : IsE σ sb q) {k0 : Blk} (hsb : σ sb = some k0) (hfz : k0.fz = (0, 0)) (hso : k0.cells[so]? = some (hdr q)) (hn : q.2.length ≤ 1000)
    (e : Ent) (k : Int) (hk : k = -1 ∨ ∃ j : Nat, j < q.2.length ∧ k = j) {K : Value → Store → Prop}
    (hK : ∀ q' σ', q'.2 = (if k < 0 then q.2 else q.2.eraseIdx k.toNat) ++ [e] → IsE σ' sb q' → σ' sb = some ⟨k0.ty, k0.cells.set so (hdr q'), (0, 0)⟩ → Md sb σ σ' → Fresh σ q' → K (.tuple #[]) σ') :
    Spec Pr F.cache_last [.pointer (some ⟨sb, so, none⟩), .int .i64 k, e.agg] σ K := by
  have hso' : so < k0.cells.length := by
    rcases Nat.lt_or_ge so k0.cells.length with h | h
    · exact h
    · rw [List.getElem?_eq_none h] at hso; cases hso
  refine cache_last.ok ⟨_, _, _, rd hsb hso, clone_spec hq.l (by rw [hq.l.1]; omega) fun a' n' c' σ1 ho hl => ⟨_, _, _, rfl, ?_⟩⟩
  rcases hk with rfl | ⟨j, hj, rfl⟩
  · exact cond_f (by decide) (hopI (last_j4 ho hl hsb hfz hso' hn e hK))
  · refine cond_t (by simp) (delete_spec ho (by rw [ho.1]; omega) j hj fun σ2 ho2 hk2 => ⟨_, _, _, rfl, hopI ?_⟩)
    rw [if_neg (by omega)] at hK
    exact last_j4 ho2 (hk2.le hl) hsb hfz hso' (by rw [List.length_eraseIdx]; split <;> omega) e hK

/-- The cache lies at p, its sets at sb. -/
structure CAt (σ : Store) (p sb : Nat) (ways : Int) (ps : List SetH) : Prop where
  hp : ∃ k, σ p = some k ∧ k.cells = [.int .i64 ways, .slice (some ⟨sb, 0, none⟩) ps.length ps.length]
  hs : ∃ ty, σ sb = some ⟨ty, ps.map hdr, (0, 0)⟩
  ne : p ≠ sb
  el : ∀ q ∈ ps, IsE σ sb q
  pos : 0 < ps.length
  le : ps.length ≤ 64
  w8 : ways ≤ 8
  few : ∀ q ∈ ps, (q.2.length : Int) ≤ ways

theorem CAt.mono {σ σ' : Store} {p sb : Nat} {ways : Int} {ps : List SetH} (h : CAt σ p sb ways ps) (hl : σ.le σ') : CAt σ' p sb ways ps :=
  ⟨h.hp.imp fun k hk => ⟨hl _ _ hk.1, hk.2⟩, h.hs.imp fun ty ht => hl _ _ ht, h.ne, fun q hq => (h.el q hq).keep (Md.of_le hl), h.pos, h.le, h.w8, h.few⟩

theorem CAt.upd {σ σ' : Store} {p sb : Nat} {ways : Int} {ps : List SetH} (h : CAt σ p sb ways ps) {i : Nat} {q' : SetH} (hm : Md sb σ σ') (hq : IsE σ' sb q') {ty : TypeId} (hs : σ' sb = some ⟨ty, (ps.map hdr).set i (hdr q'), (0, 0)⟩)
    (hw : (q'.2.length : Int) ≤ ways) : CAt σ' p sb ways (ps.set i q') := by
  obtain ⟨k, hk, hc⟩ := h.hp
  refine ⟨⟨k, hm _ _ h.ne hk, by rw [hc, List.length_set]⟩, ⟨ty, by rw [hs, List.map_set]⟩, h.ne, fun q hx => ?_, by rw [List.length_set]; exact h.pos, by rw [List.length_set]; exact h.le, h.w8, fun q hx => ?_⟩
  · rcases List.mem_or_eq_of_mem_set hx with hx | rfl
    · exact (h.el q hx).keep hm
    · exact hq
  · rcases List.mem_or_eq_of_mem_set hx with hx | rfl
    · exact h.few q hx
    · exact hw

abbrev wh (ps : List SetH) (line : Int) : Nat := line.toNat % ps.length
theorem wh_lt {ps : List SetH} (h : 0 < ps.length) (line : Int) : wh ps line < ps.length := Nat.mod_lt _ h

theorem hdr_at {ps : List SetH} {i : Nat} (h : i < ps.length) : (ps.map hdr)[i]? = some (hdr (ps[i]'h)) := by
  rw [List.getElem?_map, List.getElem?_eq_getElem h]; rfl

theorem at_pur {σ : Store} {p sb : Nat} {ways : Int} {ps : List SetH} (h : CAt σ p sb ways ps) (line : Int) (h0 : 0 ≤ line) :
    Pur Pr F.cache_Cache_at [.pointer (some ⟨p, 0, none⟩), .int .i64 line] σ (.tuple #[.pointer (some ⟨sb, wh ps line, none⟩), .int .i64 (idxE line 0 (ps[wh ps line]'(wh_lt h.pos line)).2)]) := fun K hK => by
  refine Spec.shrink (cache_Cache_at.ok fun b hb => ?_)
  have hle := le_new ⟨3, [.int .i64 line], (0, 0)⟩ hb
  obtain ⟨k, hk, hc⟩ := h.hp
  obtain ⟨ty, hs⟩ := h.hs
  have hk' := hle _ _ hk
  have hb' : (σ.set b ⟨3, [.int .i64 line], (0, 0)⟩) b = some ⟨3, [.int .i64 line], (0, 0)⟩ := set_eq
  have hcell := rd (off := 1) hk' (by rw [hc]; rfl)
  obtain ⟨m, rfl⟩ := Int.eq_ofNat_of_zero_le h0
  have hmod : Int.tmod (m : Int) ((ps.length : Nat) : Int) = ((m % ps.length : Nat) : Int) := by
    rw [Int.tmod_eq_emod_of_nonneg (by omega)]; omega
  have hlt : m % ps.length < ps.length := Nat.mod_lt _ h.pos
  have e : 0 + ((m % ps.length : Nat) : Int).toNat * 1 = m % ps.length := by rw [Int.toNat_natCast]; omega
  refine ⟨m, rd hb' rfl, cond_f (by simp) ⟨_, _, _, hcell, m, rd hb' rfl, _, _, _, hcell, rq (by have := h.pos; rw [Bool.not_eq_true']; exact decide_eq_false (by omega)) ?_⟩⟩
  rw [hmod]
  refine rq (by simp; omega) (ptrI ⟨_, _, _, rd (hle _ _ hs) (off := 0 + ((m % ps.length : Nat) : Int).toNat * 1) (v := hdr (ps[m % ps.length]'hlt)) ?_, ?_⟩)
  · rw [e, hdr_at hlt]
  · have hq := (h.el _ (List.getElem_mem hlt)).keep (Md.of_le hle)
    have hf := h.few _ (List.getElem_mem hlt)
    have h8 := h.w8
    refine indexFunc_pur hq.l (by omega) (rd hb' rfl) _ ⟨_, rfl, σ, hle, ?_⟩
    rw [e]
    exact hK

theorem at_neg {σ : Store} {p sb : Nat} {ways : Int} {ps : List SetH} (h : CAt σ p sb ways ps) (line : Int) (h0 : line < 0) :
    Pur Pr F.cache_Cache_at [.pointer (some ⟨p, 0, none⟩), .int .i64 line] σ (.tuple #[.pointer (some ⟨sb, 0, none⟩), .int .i64 (-1)]) := fun K hK => by
  refine Spec.shrink (cache_Cache_at.ok fun b hb => ?_)
  have hle := le_new ⟨3, [.int .i64 line], (0, 0)⟩ hb
  obtain ⟨k, hk, hc⟩ := h.hp
  have hk' := hle _ _ hk
  have hb' : (σ.set b ⟨3, [.int .i64 line], (0, 0)⟩) b = some ⟨3, [.int .i64 line], (0, 0)⟩ := set_eq
  exact ⟨line, rd hb' rfl, cond_t (by simp [h0]) ⟨_, _, _, rd hk' (by rw [hc]; rfl), rq (by have := h.pos; simp; omega) (ptrI ⟨σ, hle, hK⟩)⟩⟩

/-! ### The model -/
abbrev Sets := List (List Ent)
def setOf (M : Sets) (line : Int) : List Ent := M.getD (line.toNat % M.length) []
def findM (M : Sets) (line : Int) : Option Ent := if line < 0 then none else (setOf M line).find? (fun e => e.line == line)
def turnM (M : Sets) (e : Ent) : Sets := M.set (e.line.toNat % M.length) ((setOf M e.line).eraseP (fun x => x.line == e.line) ++ [e])
def dropM (M : Sets) (line : Int) : Sets := M.set (line.toNat % M.length) ((setOf M line).eraseP (fun x => x.line == line))
def victimM (M : Sets) (line : Int) (not : List Int) : Option Ent := if line < 0 then none else (setOf M line).find? (fun e => !not.contains e.line)
def roomM (M : Sets) (ways : Int) (line : Int) : Bool := decide (line ≥ 0) && ((findM M line).isSome || decide (((setOf M line).length : Int) < ways))
def putRes (M : Sets) (ways : Int) (e : Ent) : Option (_root_.Fin 11) :=
  if e.line < 0 then some 5 else if e.state < 1 ∨ e.state > 4 then some 1 else if roomM M ways e.line then none else some 6

abbrev sets (ps : List SetH) : Sets := ps.map (·.2)
theorem setOf_sets {ps : List SetH} (h : 0 < ps.length) (line : Int) : setOf (sets ps) line = (ps[wh ps line]'(wh_lt h line)).2 := by
  have := wh_lt h line
  simp [setOf, sets, List.getD, this]

def optV : Option Ent → Value
  | some e => .tuple #[e.agg, .bool true]
  | none => .tuple #[Ent.z.agg, .bool false]

theorem find_pur {σ : Store} {p sb : Nat} {ways : Int} {ps : List SetH} (h : CAt σ p sb ways ps) (line : Int) :
    Pur Pr F.cache_Cache_Find [.pointer (some ⟨p, 0, none⟩), .int .i64 line] σ (optV (findM (sets ps) line)) := fun K hK => by
  refine cache_Cache_Find.ok ?_
  unfold findM at hK
  rcases Int.lt_or_le line 0 with h0 | h0
  · rw [if_pos h0] at hK
    exact at_neg h line h0 _ ⟨_, _, rfl, cond_t (by decide) hK⟩
  · rw [if_neg (by omega), setOf_sets h.pos] at hK
    refine at_pur h line h0 _ ⟨_, _, rfl, ?_⟩
    have hlt := wh_lt h.pos line
    obtain ⟨ty, hs⟩ := h.hs
    rcases idxE_spec line (ps[wh ps line]).2 0 with ⟨h1, h2, _⟩ | ⟨k, hk, h1, h2, _⟩
    · rw [h2] at hK; rw [h1]; exact cond_t (by decide) hK
    · rw [h2] at hK; rw [h1, Int.zero_add]
      refine cond_f (by simp) (ptrI ⟨_, _, _, rd hs (v := hdr (ps[wh ps line])) (hdr_at hlt), (h.el _ (List.getElem_mem hlt)).l.at entLen k rfl hk fun B O hc => ⟨_, _, _, _, _, _, hc, hK⟩⟩)

theorem room_pur {σ : Store} {p sb : Nat} {ways : Int} {ps : List SetH} (h : CAt σ p sb ways ps) (line : Int) :
    Pur Pr F.cache_Cache_Room [.pointer (some ⟨p, 0, none⟩), .int .i64 line] σ (.bool (roomM (sets ps) ways line)) := fun K hK => by
  refine cache_Cache_Room.ok ?_
  unfold roomM findM at hK
  rcases Int.lt_or_le line 0 with h0 | h0
  · have e : decide (line ≥ 0) = false := by simp; omega
    rw [e, Bool.false_and] at hK
    exact at_neg h line h0 _ ⟨_, _, rfl, cond_f e hK⟩
  · have e : decide (line ≥ 0) = true := by simp; omega
    rw [e, Bool.true_and, if_neg (by omega), setOf_sets h.pos] at hK
    refine at_pur h line h0 _ ⟨_, _, rfl, cond_t e ?_⟩
    have hlt := wh_lt h.pos line
    obtain ⟨ty, hs⟩ := h.hs
    obtain ⟨kp, hkp, hc⟩ := h.hp
    rcases idxE_spec line (ps[wh ps line]).2 0 with ⟨h1, h2, _⟩ | ⟨k, hk, h1, h2, _⟩
    · rw [h2, Option.isSome_none, Bool.false_or] at hK; rw [h1]
      refine cond_f (by decide) (ptrI ⟨_, _, _, rd hs (v := hdr (ps[wh ps line])) (hdr_at hlt), ways, rd hkp (by rw [hc]; rfl), ?_⟩)
      rw [(h.el _ (List.getElem_mem hlt)).l.1]; exact hK
    · rw [h2, Option.isSome_some, Bool.true_or] at hK; rw [h1, Int.zero_add]
      exact cond_t (by simp) hK
end Go.Ev
