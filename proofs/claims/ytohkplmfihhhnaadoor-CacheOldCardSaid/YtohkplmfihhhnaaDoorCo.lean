/-
  CacheOld, the walk: it answers true.
  Conditions: none.
-/
import Derived.Test.YtohkplmfihhhnaaDoorCol
set_option linter.unusedVariables false
set_option linter.unusedSimpArgs false
set_option maxRecDepth 100000
namespace Go.Ev
open Go

abbrev iV (x : Int) : Value := .int .i64 x

/-- The cache and the list 'last', apart. -/
structure OS (σ0 σ : Store) (p sb lb : Nat) (w : Nat) (ps : List SetH) (l : List Nat) (lt : List Int) : Prop where
  hc : CAt σ p sb w ps
  hM : sets ps = MO l
  hl : σ0.le σ
  hb : σ lb = some ⟨3, lt.map iV, (0, 0)⟩
  n1 : lb ≠ sb
  n2 : lb ≠ p
  ap : ∀ q ∈ ps, q.1.2.1 ≠ 0 → ∀ ad, q.1.1 = some ad → ad.block ≠ lb

theorem OS.chg {σ0 σ σ' : Store} {p sb lb : Nat} {w : Nat} {ps ps' : List SetH} {l l' : List Nat} {lt : List Int} (h : OS σ0 σ p sb lb w ps l lt) (h0 : σ0 sb = none) (hc : CAt σ' p sb w ps') (hM : sets ps' = MO l') (hg : Chg sb σ σ' ps ps') :
    OS σ0 σ' p sb lb w ps' l' lt := by
  refine ⟨hc, hM, le_md h.hl h0 hg.md, hg.md lb _ h.n1 h.hb, h.n1, h.n2, fun q hq hn ad e => ?_⟩
  rcases hg.fr q hq with hq | hf
  · exact h.ap q hq hn ad e
  · intro hh
    have h1 := hf hn ad e
    rw [hh, h.hb] at h1; cases h1

theorem OS.write {σ0 σ : Store} {p sb lb : Nat} {w : Nat} {ps : List SetH} {l : List Nat} {lt : List Int} (h : OS σ0 σ p sb lb w ps l lt) (h0 : σ0 lb = none) (k : Nat) (hk : k < lt.length) (v : Int) {K : Store → Prop}
    (hK : ∀ σ', OS σ0 σ' p sb lb w ps l (lt.set k v) → K σ') {t : Int} (ht : t = (k : Int)) {n : Nat} (hn : n = lt.length) : Req (decide (0 ≤ t) && decide (t < ((n : Nat) : Int))) (PtrNN (some ⟨lb, 0, none⟩) fun B O => StoreK σ B (O + t.toNat * 1) 1 [.int .i64 v] K) := by
  subst ht hn
  refine rq (by simp; omega) ?_
  refine ⟨rfl, rfl, _, h.hb, ?_, rfl, ?_⟩
  · show 0 + k * 1 + 1 ≤ (lt.map iV).length
    rw [List.length_map]; omega
  · have e : spliceL (lt.map iV) (0 + ((k : Nat) : Int).toNat * 1) [.int .i64 v] = (lt.set k v).map iV := by
      show (lt.map iV).set (0 + k * 1) (iV v) = _
      rw [show 0 + k * 1 = k by omega, List.map_set]
    show K (σ.set lb ⟨3, spliceL (lt.map iV) (0 + ((k : Nat) : Int).toNat * 1) [.int .i64 v], (0, 0)⟩)
    rw [e]
    refine hK _ ⟨h.hc.keepP (fun b => b ≠ lb) (Ne.symm h.n2) (Ne.symm h.n1) h.ap fun b kk hb hx => by rw [set_diff hb]; exact hx, h.hM, fun b kk hb => ?_, set_eq, h.n1, h.n2, h.ap⟩
    rw [set_diff (by rintro rfl; rw [h0] at hb; cases hb)]
    exact h.hl _ _ hb

theorem OS.read {σ0 σ : Store} {p sb lb : Nat} {w : Nat} {ps : List SetH} {l : List Nat} {lt : List Int} (h : OS σ0 σ p sb lb w ps l lt) : IsL iC 1 σ (some ⟨lb, 0, none⟩) lt.length lt := by
  have e : ∀ lt : List Int, lt.flatMap iC = lt.map iV := fun lt => by
    induction lt with
    | nil => rfl
    | cons x l ih => rw [List.flatMap_cons, List.map_cons, ih]; rfl
  refine ⟨rfl, fun _ => ⟨lb, 0, _, rfl, h.hb, by dsimp only; rw [List.length_map]; omega, ?_⟩⟩
  dsimp only
  rw [e, List.drop_zero, List.take_of_length_le (by rw [List.length_map]; omega)]

theorem OS.few {σ0 σ : Store} {p sb lb : Nat} {w : Nat} {ps : List SetH} {l : List Nat} {lt : List Int} (h : OS σ0 σ p sb lb w ps l lt) (hl : l.length ≤ 12) : Pur Pr F.cache_Cache_Len [.pointer (some ⟨p, 0, none⟩)] σ (.int .i64 (l.length : Int)) := by
  have e : totM (sets ps) = l.length := by rw [h.hM]; simp [totM, MO]
  have := len_pur h.hc (by rw [e]; exact hl)
  rw [e] at this; exact this

theorem wrap4 (k : Nat) (hk : k ≤ 100) : IntKind.wrap .i64 (4 * (k : Int)) = 4 * (k : Int) := wrap_id (by omega) (by omega)

section
variable {σ0 : Store} {K : Value → Store → Prop}

/-- What is given up is the oldest, one after the other. -/
theorem co25 {p sb lb : Nat} {w : Nat} (hw : 1 ≤ w) (hw8 : w ≤ 8) (h0 : σ0 sb = none) (hK : ∀ σ', σ0.le σ' → K (.bool true) σ') {lt : List Int} (t : Int) :
    ∀ (l : List Nat) (n : Nat) (σ : Store) (ps : List SetH), n + l.length = w → OS σ0 σ p sb lb w ps l lt → OI l lt w t → corrallaw17_CacheOld.l25 K (l.length + 1) (w : Int) (some ⟨p, 0, none⟩) (some ⟨lb, 0, none⟩) lt.length w (n : Int) σ
  | [], n, σ, ps, hn, h, hI => by
    refine cond_f (by simp at hn ⊢; omega) (hopI ?_)
    refine victim_pur h.hc 0 (na := none) (nn := 0) (nc := 0) (no := []) ⟨rfl, fun h => absurd rfl h⟩ (by simp) _ ?_
    have hv := victim_MO [] 0
    rw [h.hM]
    have hv' : victimM (MO []) 0 [] = none := hv
    rw [hv']
    refine ⟨_, _, _, _, _, _, _, rfl, ?_⟩
    refine cond_t (by rfl) (h.few (by simp) _ ⟨_, rfl, ?_⟩)
    exact hK _ h.hl
  | v :: l, n, σ, ps, hn, h, hI => by
    have hvw := hI.lo v (List.mem_cons_self ..)
    have hlen := hI.len
    refine cond_t (by simp at hn ⊢; omega) ?_
    rw [wrap4 w (by omega)]
    refine victim_pur h.hc (4 * (w : Int)) (na := none) (nn := 0) (nc := 0) (no := []) ⟨rfl, fun h => absurd rfl h⟩ (by simp) _ ?_
    rw [h.hM, victim_MO]
    refine ⟨_, _, _, _, _, _, _, rfl, ?_⟩
    refine cond_f (by rfl) (hopI ⟨w + 1, ?_⟩)
    have hq : quoI .i64 (ent v).line 4 = (v : Int) := by
      show quoI .i64 (4 * (v : Int)) 4 = (v : Int)
      unfold quoI
      rw [show Int.tdiv (4 * (v : Int)) 4 = (v : Int) by rw [Int.tdiv_eq_ediv_of_nonneg (by omega)]; omega, wrap_id (by omega) (by omega)]
    rw [hq]
    have loop : ∀ (r i : Nat), i + r = w → corrallaw17_CacheOld.l32 K (corrallaw17_CacheOld.l25 K (l.length + 1)) (r + 1) (w : Int) (some ⟨p, 0, none⟩) (some ⟨lb, 0, none⟩) lt.length w (n : Int) (v : Int) (i : Int) (4 * (v : Int)) 1 0 0 0 0 σ := by
      intro r
      induction r with
      | zero =>
        intro i hi
        refine cond_f (by simp; omega) (hopI ?_)
        refine drop_spec h.hc (4 * (v : Int)) (fun hno => ?_) fun e he ps' σ' h1 h2 h3 => ⟨_, rfl, ?_⟩
        · rw [h.hM, findM_MO, if_pos (List.mem_cons_self ..)] at hno; cases hno
        · refine hopI (hopI ?_)
          show corrallaw17_CacheOld.l25 K (l.length + 1) _ _ _ _ _ _ σ'
          rw [wrap_succ (by omega)]
          rw [h.hM, dropM_MO, List.erase_cons_head] at h2
          exact co25 hw hw8 h0 hK t l (n + 1) σ' ps' (by rw [List.length_cons] at hn; omega) (h.chg h0 h1 h2 h3) hI.tail
      | succ r ih =>
        intro i hi
        refine cond_t (by simp; omega) ?_
        rw [wrap4 i (by omega)]
        refine find_pur h.hc _ _ ?_
        rw [h.hM, findM_MO]
        have nx : Hop (corrallaw17_CacheOld.T 32) (corrallaw17_CacheOld.T 32) (corrallaw17_CacheOld.l32 K (corrallaw17_CacheOld.l25 K (l.length + 1)) (r + 1) (w : Int) (some ⟨p, 0, none⟩) (some ⟨lb, 0, none⟩) lt.length w (n : Int) (v : Int) (IntKind.wrap .i64 ((i : Int) + 1)) (4 * (v : Int)) 1 0 0 0 0 σ) := by
          rw [wrap_succ (by omega)]; exact hopI (ih (i + 1) (by omega))
        by_cases hm : i ∈ v :: l
        · rw [if_pos hm]
          refine ⟨_, _, _, _, _, _, _, rfl, ?_⟩
          refine cond_t rfl (h.read.at1 (e := iV) i rfl (by omega) fun B O hc => ⟨_, hc, h.read.at1 (e := iV) v rfl (by omega) fun B O hc => ⟨_, hc, cond_f ?_ nx⟩⟩)
          have := hI.oldest i hm
          rw [List.getD_eq_getElem?_getD, List.getD_eq_getElem?_getD, List.getElem?_eq_getElem (by omega), List.getElem?_eq_getElem (by omega)] at this
          simpa using this
        · rw [if_neg hm]
          exact ⟨_, _, _, _, _, _, _, rfl, cond_f rfl nx⟩
    exact loop w 0 (by omega)

/-- The uses. -/
theorem co18 {p sb lb : Nat} {w : Nat} (hw : 1 ≤ w) (hw8 : w ≤ 8) (h0 : σ0 sb = none) (h1 : σ0 lb = none) (hK : ∀ σ', σ0.le σ' → K (.bool true) σ') {ua : Option Addr} {un uc : Nat} {us : List Int} (hu : IsL iC 1 σ0 ua un us) (h60 : us.length ≤ 60) (r : Nat) :
    ∀ (i : Nat) (l : List Nat) (lt : List Int) (σ : Store) (ps : List SetH), i + r = us.length → OS σ0 σ p sb lb w ps l lt → OI l lt w ((w : Int) + i) → l.length = w → (∀ k, k < w → k ∈ l) →
      corrallaw17_CacheOld.l18 K (r + 1) (w : Int) ua un uc (some ⟨p, 0, none⟩) (some ⟨lb, 0, none⟩) lt.length w (i : Int) σ := by
  have hn := hu.1
  induction r with
  | zero =>
    intro i l lt σ ps hi h hI hlw hall
    refine cond_f (by simp; omega) (hopI (hopI ⟨l.length + 1, ?_⟩))
    exact co25 hw hw8 h0 hK _ l 0 σ ps (by omega) h hI
  | succ r ih =>
    intro i l lt σ ps hi h hI hlw hall
    have hlt : i < us.length := by omega
    refine cond_t (by simp; omega) ((hu.mono h.hl).at1 (e := iV) i rfl hlt fun B O hc => ⟨_, hc, num_pur σ _ (w : Int) (by omega) (by omega) _ ⟨_, rfl, ?_⟩⟩)
    obtain ⟨g1, g2⟩ := num_rng us[i] (w : Int) (by omega)
    obtain ⟨k, hk⟩ := Int.eq_ofNat_of_zero_le g1
    rw [hk] at g2 ⊢
    have hkw : k < w := by omega
    rw [wrap4 k (by omega)]
    refine use_spec h.hc _ (fun hno => ?_) fun e he ps' σ' h2 h3 h4 => ⟨_, rfl, ?_⟩
    · rw [h.hM, findM_MO, if_pos (hall k hkw)] at hno; cases hno
    · rw [h.hM, findM_MO, if_pos (hall k hkw)] at he
      obtain rfl := Option.some.inj he
      rw [h.hM, turnM_MO] at h3
      have hO := h.chg h0 h2 h3 h4
      refine cond_f rfl (hO.write h1 k (by rw [hI.len]; exact hkw) _ (fun σ2 h5 => hopI ?_) rfl rfl)
      show corrallaw17_CacheOld.l18 K (r + 1) (w : Int) ua un uc (some ⟨p, 0, none⟩) (some ⟨lb, 0, none⟩) lt.length w _ σ2
      have hw' : IntKind.wrap .i64 ((w : Int) + (i : Int)) = (w : Int) + i := wrap_id (by omega) (by omega)
      rw [hw'] at h5
      rw [wrap_succ (by omega)]
      have hp : (l.erase k ++ [k]).Perm l := (List.perm_append_comm).trans (List.perm_cons_erase (hall k hkw)).symm
      have := ih (i + 1) (l.erase k ++ [k]) (lt.set k ((w : Int) + i)) σ2 ps' (by omega) h5 (by have := hI.touch k hkw; rw [show ((w : Int) + ((i + 1 : Nat) : Int)) = (w : Int) + i + 1 by omega]; exact this) (by rw [hp.length_eq]; exact hlw) fun j hj => hp.mem_iff.2 (hall j hj)
      rw [List.length_set] at this
      exact this

/-- The puts. -/
theorem co12 {E : Nat → Nat × Nat} (hE : Errs σ0 E) {p sb lb : Nat} {w : Nat} (hw : 1 ≤ w) (hw8 : w ≤ 8) (h0 : σ0 sb = none) (h1 : σ0 lb = none) (hK : ∀ σ', σ0.le σ' → K (.bool true) σ') {ua : Option Addr} {un uc : Nat} {us : List Int} (hu : IsL iC 1 σ0 ua un us) (h60 : us.length ≤ 60) (r : Nat) :
    ∀ (i : Nat) (lt : List Int) (σ : Store) (ps : List SetH), i + r = w → OS σ0 σ p sb lb w ps (List.range i) lt → OI (List.range i) lt w (i : Int) →
      corrallaw17_CacheOld.l12 K (r + 1) (w : Int) ua un uc (some ⟨p, 0, none⟩) (some ⟨lb, 0, none⟩) lt.length w (i : Int) σ := by
  induction r with
  | zero =>
    intro i lt σ ps hi h hI
    obtain rfl : i = w := by omega
    refine cond_f (by simp) (hopI (hopI ⟨us.length + 1, ?_⟩))
    exact co18 hw hw8 h0 h1 hK hu h60 us.length 0 (List.range i) lt σ ps (by omega) h (by simpa using hI) (by simp) (by simp)
  | succ r ih =>
    intro i lt σ ps hi h hI
    refine cond_t (by simp; omega) ?_
    rw [wrap4 i (by omega)]
    have hpr : putRes (sets ps) w (ent i) = none := by rw [h.hM]; exact put_MO _ _ _ (by rw [List.length_range]; omega)
    refine put_spec (hE.le h.hl) h.hc (ent i) (fun k hk => nomatch (hpr.symm.trans hk)) fun _ ps' σ' h2 h3 h4 => ⟨_, rfl, ?_⟩
    rw [h.hM, turnM_MO, List.erase_of_not_mem (by simp), ← List.range_succ] at h3
    have hO := h.chg h0 h2 h3 h4
    refine hO.write h1 i (by rw [hI.len]; omega) _ (fun σ2 h5 => hopI ?_) rfl rfl
    show corrallaw17_CacheOld.l12 K (r + 1) (w : Int) ua un uc (some ⟨p, 0, none⟩) (some ⟨lb, 0, none⟩) lt.length w _ σ2
    rw [wrap_succ (by omega)]
    have ht := hI.touch i (by omega)
    rw [List.erase_of_not_mem (by simp), ← List.range_succ] at ht
    have := ih (i + 1) (lt.set i (i : Int)) σ2 ps' (by omega) h5 (by rw [show ((i + 1 : Nat) : Int) = (i : Int) + 1 by omega]; exact ht)
    rw [List.length_set] at this
    exact this
end

theorem zeros_int (w : Nat) : zeroN [.int .i64 0] w = (List.replicate w (0 : Int)).map iV := by
  induction w with
  | zero => rfl
  | succ w ih => rw [List.replicate_succ, List.map_cons, ← ih]; rfl

theorem cacheOld_spec {σ0 : Store} {E : Nat → Nat × Nat} (hE : Errs σ0 E) (ways : Int) {ua : Option Addr} {un uc : Nat} {us : List Int} (hu : IsL iC 1 σ0 ua un us) {K : Value → Store → Prop} (hK : ∀ σ', σ0.le σ' → K (.bool true) σ') :
    Spec Pr F.corrallaw17_CacheOld [.int .i64 ways, .slice ua un uc] σ0 K := by
  have hn := hu.1
  refine corrallaw17_CacheOld.ok (first_spec hE ⟨_, rfl, ?_⟩)
  refine num_pur σ0 ways 8 (by decide) (by decide) _ ⟨_, rfl, ?_⟩
  obtain ⟨g1, g2⟩ := num_rng ways 8 (by decide)
  obtain ⟨w', hw'⟩ := Int.eq_ofNat_of_zero_le g1
  rw [hw', wrap_succ (by omega)]
  generalize hw : w' + 1 = w
  have hw1 : 1 ≤ w := by omega
  have hw8 : w ≤ 8 := by omega
  refine cond_i (fun _ => hK _ Store.le_rfl) (fun e => ?_)
  have h60 : us.length ≤ 60 := by simp at e; omega
  refine hopI (new_spec 4 w (by decide) (by decide) (by decide) (by omega) (by omega) fun p sb σ1 hsb C1 l1 => ⟨_, _, rfl, hopI ⟨by omega, by omega, by omega, by omega, fun lb hlb => hopI ⟨w + 1, ?_⟩⟩⟩)
  have hle := le_new ⟨3, zeroN [.int .i64 0] (((w : Nat) : Int).toNat), (0, 0)⟩ hlb
  have h0lb : σ0 lb = none := by
    cases hh : σ0 lb
    · rfl
    · rw [l1 _ _ hh] at hlb; cases hlb
  obtain ⟨kp, hkp, _⟩ := C1.hp
  obtain ⟨ty, hs⟩ := C1.hs
  have hO : OS σ0 (σ1.set lb ⟨3, zeroN [.int .i64 0] (((w : Nat) : Int).toNat), (0, 0)⟩) p sb lb w (List.replicate (4 : Int).toNat ((none, 0, 0), [])) (List.range 0) (List.replicate w 0) := by
    refine ⟨C1.mono hle, rfl, fun b k hb => hle _ _ (l1 _ _ hb), ?_, ?_, ?_, fun q hq hn => ?_⟩
    · rw [set_eq, Int.toNat_natCast, zeros_int]
    · rintro rfl; rw [hs] at hlb; cases hlb
    · rintro rfl; rw [hkp] at hlb; cases hlb
    · rw [List.eq_of_mem_replicate hq] at hn; exact absurd rfl hn
  have hI : OI (List.range 0) (List.replicate w 0) w ((0 : Nat) : Int) := ⟨by simp, by simp, by simp, by simp, by simp⟩
  have := co12 hE hw1 hw8 hsb h0lb hK hu h60 (uc := uc) w 0 (List.replicate w 0) _ _ (by omega) hO hI
  rw [List.length_replicate] at this
  exact this
end Go.Ev
