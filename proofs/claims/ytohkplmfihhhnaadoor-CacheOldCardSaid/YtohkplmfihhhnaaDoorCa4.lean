/-
  The cache: Victim, Use, Put, Drop, New.
  Conditions: none.
-/
import Derived.Test.YtohkplmfihhhnaaDoorCa3
set_option linter.unusedVariables false
set_option linter.unusedSimpArgs false
set_option maxRecDepth 100000
namespace Go.Ev
open Go

theorem victim_loop {σ : Store} {a : Option Addr} {n c : Nat} {xs : List Ent} (h : IsL Ent.cells 6 σ a n xs) (hn : xs.length < 4611686018427387904) {na : Option Addr} {nn nc : Nat} {no : List Int} (hno : IsL iC 1 σ na nn no) (hnl : no.length < 4611686018427387904)
    {K : Value → Store → Prop} : ∀ (r i : Nat), i + r = xs.length → K (optV ((xs.drop i).find? fun e => !no.contains e.line)) σ → cache_Cache_Victim.l5 K (r + 1) na nn nc a n c ((n : Nat) : Int) (i : Int) 0 0 0 0 0 0 σ
  | 0, i, hi, hK => by
    rw [List.drop_of_length_le (by omega)] at hK
    exact cond_f (by simp [h.1]; omega) (hopI hK)
  | r + 1, i, hi, hK => by
    rw [List.drop_eq_getElem_cons (by omega), List.find?_cons] at hK
    refine cond_t (by simp [h.1]; omega) (h.at entLen i rfl (by omega) fun B O hc => ⟨_, _, _, _, _, _, hc, ?_⟩)
    refine contains_pur hno hnl _ _ ⟨_, rfl, cond_i (fun e => ?_) (fun e => hopI ?_)⟩
    · rw [e] at hK; exact hK
    · rw [e] at hK
      show cache_Cache_Victim.l5 K (r + 1) na nn nc a n c _ _ 0 0 0 0 0 0 σ
      rw [wrap_succ (by omega)]
      exact victim_loop h hn hno hnl r (i + 1) (by omega) hK

theorem victim_pur {σ : Store} {p sb : Nat} {ways : Int} {ps : List SetH} (h : CAt σ p sb ways ps) (line : Int) {na : Option Addr} {nn nc : Nat} {no : List Int} (hno : IsL iC 1 σ na nn no) (hnl : no.length < 4611686018427387904) :
    Pur Pr F.cache_Cache_Victim [.pointer (some ⟨p, 0, none⟩), .int .i64 line, .slice na nn nc] σ (optV (victimM (sets ps) line no)) := fun K hK => by
  refine cache_Cache_Victim.ok ?_
  unfold victimM at hK
  rcases Int.lt_or_le line 0 with h0 | h0
  · rw [if_pos h0] at hK
    exact cond_t (by simp [h0]) hK
  · rw [if_neg (by omega), setOf_sets h.pos] at hK
    refine cond_f (by simp; omega) (at_pur h line h0 _ ⟨_, _, rfl, ?_⟩)
    have hlt := wh_lt h.pos line
    obtain ⟨ty, hs⟩ := h.hs
    have hf := h.few _ (List.getElem_mem hlt)
    have h8 := h.w8
    refine ptrI ⟨_, _, _, rd hs (v := hdr (ps[wh ps line])) (hdr_at hlt), hopI ⟨_, victim_loop (h.el _ (List.getElem_mem hlt)).l (by omega) hno hnl _ 0 (Nat.zero_add _) hK⟩⟩

theorem find_line {l : List Ent} {line : Int} {e : Ent} (h : l.find? (fun e => e.line == line) = some e) : e.line = line := by
  have := List.find?_some h
  simpa using this

theorem last_turn {σ : Store} {p sb : Nat} {ways : Int} {ps : List SetH} (h : CAt σ p sb ways ps) (e : Ent) (h0 : 0 ≤ e.line) (hroom : roomM (sets ps) ways e.line = true) {K : Value → Store → Prop}
    (hK : ∀ ps' σ', CAt σ' p sb ways ps' → sets ps' = turnM (sets ps) e → Chg sb σ σ' ps ps' → K (.tuple #[]) σ') :
    Spec Pr F.cache_last [.pointer (some ⟨sb, wh ps e.line, none⟩), .int .i64 (idxE e.line 0 (ps[wh ps e.line]'(wh_lt h.pos e.line)).2), e.agg] σ K := by
  have hlt := wh_lt h.pos e.line
  obtain ⟨ty, hs⟩ := h.hs
  have hf := h.few _ (List.getElem_mem hlt)
  have h8 := h.w8
  have key : (if idxE e.line 0 (ps[wh ps e.line]).2 < 0 then (ps[wh ps e.line]).2 else (ps[wh ps e.line]).2.eraseIdx (idxE e.line 0 (ps[wh ps e.line]).2).toNat) = (ps[wh ps e.line]).2.eraseP (fun x => x.line == e.line) ∧
      (((ps[wh ps e.line]).2.eraseP (fun x => x.line == e.line)).length : Int) + 1 ≤ ways := by
    unfold roomM findM at hroom
    rw [setOf_sets h.pos, if_neg (by omega), Bool.and_eq_true, Bool.or_eq_true] at hroom
    rcases idxE_spec e.line (ps[wh ps e.line]).2 0 with ⟨h1, h2, h3⟩ | ⟨k, hk, h1, h2, h3⟩
    · rw [h1, if_pos (by decide), h3]
      rw [h2] at hroom
      refine ⟨rfl, ?_⟩
      have := hroom.2
      simp at this
      omega
    · rw [h1, Int.zero_add, if_neg (by omega), Int.toNat_natCast, ← h3]
      refine ⟨rfl, ?_⟩
      rw [List.length_eraseIdx, if_pos hk]; omega
  refine last_spec (h.el _ (List.getElem_mem hlt)) hs rfl (hdr_at hlt) (by omega) e _ ?_ fun q' σ' hq2 hE hs' hm hf => ?_
  · rcases idxE_spec e.line (ps[wh ps e.line]).2 0 with ⟨h1, _, _⟩ | ⟨k, hk, h1, _, _⟩
    · exact .inl h1
    · exact .inr ⟨k, hk, by rw [h1]; omega⟩
  · rw [key.1] at hq2
    refine hK _ _ (h.upd hm hE hs' (by rw [hq2, List.length_append, List.length_singleton]; have := key.2; omega)) ?_ (Chg.set hm hf)
    unfold turnM
    rw [setOf_sets h.pos]
    show (ps.set _ q').map (·.2) = (ps.map (·.2)).set (e.line.toNat % (ps.map (·.2)).length) _
    rw [List.map_set, List.length_map, hq2]

theorem use_spec {σ : Store} {p sb : Nat} {ways : Int} {ps : List SetH} (h : CAt σ p sb ways ps) (line : Int) {K : Value → Store → Prop} (hno : findM (sets ps) line = none → K (.bool false) σ)
    (hyes : ∀ e, findM (sets ps) line = some e → ∀ ps' σ', CAt σ' p sb ways ps' → sets ps' = turnM (sets ps) e → Chg sb σ σ' ps ps' → K (.bool true) σ') :
    Spec Pr F.cache_Cache_Use [.pointer (some ⟨p, 0, none⟩), .int .i64 line] σ K := by
  refine cache_Cache_Use.ok ?_
  rcases Int.lt_or_le line 0 with h0 | h0
  · exact at_neg h line h0 _ ⟨_, _, rfl, cond_t (by decide) (hno (by unfold findM; rw [if_pos h0]))⟩
  · refine at_pur h line h0 _ ⟨_, _, rfl, ?_⟩
    have hlt := wh_lt h.pos line
    obtain ⟨ty, hs⟩ := h.hs
    have hfm : findM (sets ps) line = (ps[wh ps line]).2.find? (fun e => e.line == line) := by unfold findM; rw [if_neg (by omega), setOf_sets h.pos]
    rcases idxE_spec line (ps[wh ps line]).2 0 with ⟨h1, h2, _⟩ | ⟨k, hk, h1, h2, _⟩
    · rw [h1]; exact cond_t (by decide) (hno (by rw [hfm, h2]))
    · have hline := find_line h2
      refine cond_f (by rw [h1]; simp) (ptrI ⟨_, _, _, rd hs (v := hdr (ps[wh ps line])) (hdr_at hlt), (h.el _ (List.getElem_mem hlt)).l.at entLen k (by rw [h1]; omega) hk fun B O hc => ⟨_, _, _, _, _, _, by rw [h1, Int.zero_add]; exact hc, ?_⟩⟩)
      generalize he : (ps[wh ps line]).2[k] = e at hline h2
      subst hline
      exact last_turn h e h0 (by unfold roomM; rw [hfm, h2]; simp [h0]) fun ps' σ' h3 h4 h5 => ⟨rfl, hyes e (by rw [hfm, h2]) ps' σ' h3 h4 h5⟩

theorem put_spec {σ : Store} {E : Nat → Nat × Nat} (hE : Errs σ E) {p sb : Nat} {ways : Int} {ps : List SetH} (h : CAt σ p sb ways ps) (e : Ent) {K : Value → Store → Prop}
    (hbad : ∀ k, putRes (sets ps) ways e = some k → K (errO E (some k)) σ)
    (hok : putRes (sets ps) ways e = none → ∀ ps' σ', CAt σ' p sb ways ps' → sets ps' = turnM (sets ps) e → Chg sb σ σ' ps ps' → K .nilIface σ') :
    Spec Pr F.cache_Cache_Put [.pointer (some ⟨p, 0, none⟩), e.agg] σ K := by
  refine cache_Cache_Put.ok ?_
  unfold putRes at hbad hok
  refine cond_i (fun h0 => ⟨_, hE.range, hbad 5 (by rw [if_pos (by simpa using h0)])⟩) (fun h0 => ?_)
  have h0 : 0 ≤ e.line := by simpa using h0
  rw [if_neg (by omega)] at hbad hok
  refine cond_i (fun h1 => ⟨_, hE.kind, hbad 1 (by rw [if_pos (.inl (by simpa using h1))])⟩) (fun h1 => cond_i (fun h2 => ⟨_, hE.kind, hbad 1 (by rw [if_pos (.inr (by simpa using h2))])⟩) (fun h2 => hopI ?_))
  rw [if_neg (by simp at h1 h2; omega)] at hbad hok
  have hlt := wh_lt h.pos e.line
  obtain ⟨ty, hs⟩ := h.hs
  obtain ⟨kp, hkp, hc⟩ := h.hp
  have hfm : findM (sets ps) e.line = (ps[wh ps e.line]).2.find? (fun x => x.line == e.line) := by unfold findM; rw [if_neg (by omega), setOf_sets h.pos]
  refine at_pur h e.line h0 _ ⟨_, _, rfl, ?_⟩
  have fin : roomM (sets ps) ways e.line = true → cache_Cache_Put.j8 K (some ⟨sb, wh ps e.line, none⟩) (idxE e.line 0 (ps[wh ps e.line]).2) e.line e.state e.a e.b e.c e.d σ := fun hr => by
    rw [if_pos hr] at hok
    exact last_turn h e h0 hr fun ps' σ' h3 h4 h5 => ⟨rfl, hok rfl ps' σ' h3 h4 h5⟩
  rcases idxE_spec e.line (ps[wh ps e.line]).2 0 with ⟨h1, h2, _⟩ | ⟨k, hk, h1, h2, _⟩
  · refine cond_t (by rw [h1]; rfl) (ptrI ⟨_, _, _, rd hs (v := hdr (ps[wh ps e.line])) (hdr_at hlt), ways, rd hkp (by rw [hc]; rfl), ?_⟩)
    have hl := (h.el _ (List.getElem_mem hlt)).l.1
    have hr : roomM (sets ps) ways e.line = decide (((ps[wh ps e.line]).2.length : Int) < ways) := by
      unfold roomM; rw [hfm, h2, setOf_sets h.pos]; simp [h0]
    refine cond_i (fun e1 => ⟨_, hE.full, hbad 6 (by rw [if_neg]; rw [hr]; rw [hl] at e1; simp at e1 ⊢; exact e1)⟩) (fun e1 => hopI (fin (by rw [hr]; rw [hl] at e1; simp at e1 ⊢; exact e1)))
  · exact cond_f (by rw [h1]; simp) (hopI (fin (by unfold roomM; rw [hfm, h2]; simp [h0])))

/-! ### Drop -/
theorem IsL.take {σ : Store} {a : Option Addr} {n : Nat} {xs : List Ent} (h : IsL Ent.cells 6 σ a n xs) (k c : Nat) (hk : k ≤ n) : IsL Ent.cells 6 σ (slAddr a 0 c 6) k (xs.take k) := by
  refine ⟨by rw [List.length_take, ← h.1]; omega, fun h0 => ?_⟩
  obtain ⟨b, o, x, rfl, hb, hl, hx⟩ := h.2 (by omega)
  refine ⟨b, o, x, by unfold slAddr; split <;> rfl, hb, by omega, ?_⟩
  rw [← flatMap_take entLen, ← hx, List.take_take, Nat.min_eq_left (by omega)]

theorem IsL.drop {σ : Store} {a : Option Addr} {n : Nat} {xs : List Ent} (h : IsL Ent.cells 6 σ a n xs) (j c : Nat) (hj : j ≤ n) (hc : n ≤ c) : IsL Ent.cells 6 σ (slAddr a j c 6) (n - j) (xs.drop j) := by
  refine ⟨by rw [List.length_drop, ← h.1], fun h0 => ?_⟩
  obtain ⟨b, o, x, rfl, hb, hl, hx⟩ := h.2 (by omega)
  refine ⟨b, o + j * 6, x, by unfold slAddr; rw [if_neg (by omega)]; simp [Addr.add], hb, by omega, ?_⟩
  rw [← flatMap_drop entLen, ← hx, List.drop_take, List.drop_drop]
  congr 1; omega

theorem drop_spec {σ : Store} {p sb : Nat} {ways : Int} {ps : List SetH} (h : CAt σ p sb ways ps) (line : Int) {K : Value → Store → Prop} (hno : findM (sets ps) line = none → K (.bool false) σ)
    (hyes : ∀ e, findM (sets ps) line = some e → ∀ ps' σ', CAt σ' p sb ways ps' → sets ps' = dropM (sets ps) line → Chg sb σ σ' ps ps' → K (.bool true) σ') :
    Spec Pr F.cache_Cache_Drop [.pointer (some ⟨p, 0, none⟩), .int .i64 line] σ K := by
  refine cache_Cache_Drop.ok ?_
  rcases Int.lt_or_le line 0 with h0 | h0
  · exact at_neg h line h0 _ ⟨_, _, rfl, cond_t (by decide) (hno (by unfold findM; rw [if_pos h0]))⟩
  · refine at_pur h line h0 _ ⟨_, _, rfl, ?_⟩
    have hlt := wh_lt h.pos line
    obtain ⟨ty, hs⟩ := h.hs
    have hfm : findM (sets ps) line = (ps[wh ps line]).2.find? (fun e => e.line == line) := by unfold findM; rw [if_neg (by omega), setOf_sets h.pos]
    have hq := h.el _ (List.getElem_mem hlt)
    have hf := h.few _ (List.getElem_mem hlt)
    have h8 := h.w8
    rcases idxE_spec line (ps[wh ps line]).2 0 with ⟨h1, h2, _⟩ | ⟨k, hk, h1, h2, h3⟩
    · rw [h1]; exact cond_t (by decide) (hno (by rw [hfm, h2]))
    · rw [h1, Int.zero_add]
      have hN := hq.l.1
      have hC := hq.c
      have hcell := rd hs (v := hdr (ps[wh ps line])) (hdr_at hlt)
      refine cond_f (by simp) (ptrI ⟨_, _, _, hcell, rq (by simp [okIdx]; omega) (ptrI ⟨_, _, _, hcell, ?_⟩)⟩)
      rw [wrap_succ (by omega)]
      refine rq (by simp [okIdx]; omega) fun b hb => ?_
      have hle := le_new ⟨85, [.slice (slAddr (ps[wh ps line]).1.1 0 (ps[wh ps line]).1.2.2 6) k (ps[wh ps line]).1.2.2, .slice (slAddr (ps[wh ps line]).1.1 (k + 1) (ps[wh ps line]).1.2.2 6) ((ps[wh ps line]).1.2.1 - (k + 1)) ((ps[wh ps line]).1.2.2 - (k + 1))], (0, 0)⟩ hb
      refine concat_spec (ps := [((slAddr (ps[wh ps line]).1.1 0 (ps[wh ps line]).1.2.2 6, k, (ps[wh ps line]).1.2.2), (ps[wh ps line]).2.take k), ((slAddr (ps[wh ps line]).1.1 (k + 1) (ps[wh ps line]).1.2.2 6, (ps[wh ps line]).1.2.1 - (k + 1), (ps[wh ps line]).1.2.2 - (k + 1)), (ps[wh ps line]).2.drop (k + 1))])
        (IsL.new (enc := Ev.hC) (esz := 1) (fun _ => rfl) _ rfl rfl) (fun q hx => ?_) (by simp) ?_ fun a' n' c' σ' ho hl => ⟨_, _, _, rfl, ptrI ?_⟩
      · simp only [List.mem_cons, List.not_mem_nil, or_false] at hx
        rcases hx with rfl | rfl
        · exact (hq.l.take k _ (by omega)).mono hle
        · exact (hq.l.drop (k + 1) _ (by omega) hC).mono hle
      · simp only [tot, List.length_take, List.length_drop]; omega
      · have hl' : σ.le σ' := fun b k hb => hl _ _ (hle _ _ hb)
        have hx : List.flatMap (fun x : SetH => x.2) [((slAddr (ps[wh ps line]).1.1 0 (ps[wh ps line]).1.2.2 6, k, (ps[wh ps line]).1.2.2), (ps[wh ps line]).2.take k), ((slAddr (ps[wh ps line]).1.1 (k + 1) (ps[wh ps line]).1.2.2 6, (ps[wh ps line]).1.2.1 - (k + 1), (ps[wh ps line]).1.2.2 - (k + 1)), (ps[wh ps line]).2.drop (k + 1))] = (ps[wh ps line]).2.eraseP (fun x => x.line == line) := by
          rw [← h3, List.eraseIdx_eq_take_drop_succ]; simp
        rw [hx] at ho
        have hsne : σ sb ≠ none := by rw [hs]; simp
        refine ⟨rfl, rfl, _, hl' _ _ hs, by dsimp only; rw [List.length_map]; omega, rfl, ?_⟩
        have hm : Md sb σ (σ'.set sb ⟨ty, (ps.map hdr).set (wh ps line) (hdr ((a', n', c'), (ps[wh ps line]).2.eraseP (fun x => x.line == line))), (0, 0)⟩) := fun b k hb hk => by rw [set_diff hb]; exact hl' b k hk
        refine hyes _ (by rw [hfm, h2]) (ps.set (wh ps line) ((a', n', c'), (ps[wh ps line]).2.eraseP (fun x => x.line == line))) _ (h.upd hm ((ho.isE (some_ne hle _ hsne)).keep fun b k hb hk => by rw [set_diff hb]; exact hk) set_eq ?_) ?_ (Chg.set hm (ho.base (some_ne hle)).fr)
        · show (((ps[wh ps line]).2.eraseP (fun x => x.line == line)).length : Int) ≤ ways
          rw [← h3, List.length_eraseIdx, if_pos hk]; omega
        · unfold dropM
          rw [setOf_sets h.pos]
          show (ps.set _ _).map (·.2) = (ps.map (·.2)).set (line.toNat % (ps.map (·.2)).length) _
          rw [List.map_set, List.length_map]

/-! ### New -/
theorem new_spec {σ : Store} (n ways : Int) (h1 : 1 ≤ n) (h2 : n ≤ 64) (h3 : (andI .i64 n (IntKind.wrap .i64 (n - 1)) != 0) = false) (h4 : 1 ≤ ways) (h5 : ways ≤ 8) {K : Value → Store → Prop}
    (hK : ∀ p sb σ', σ sb = none → CAt σ' p sb ways (List.replicate n.toNat ((none, 0, 0), [])) → σ.le σ' → K (.tuple #[.pointer (some ⟨p, 0, none⟩), .nilIface]) σ') :
    Spec Pr F.cache_New [.int .i64 n, .int .i64 ways] σ K := by
  refine cache_New.ok (cond_f (by simp; omega) (cond_f (by simp; omega) (cond_f h3 (cond_f (by simp; omega) (cond_f (by simp; omega) (hopI ⟨by omega, by omega, by omega, by omega, fun b hb => fun p hp => ?_⟩))))))
  have hz : ∀ m : Nat, zeroN [.slice none 0 0] m = List.map hdr (List.replicate m ((none, 0, 0), [])) := by
    intro m
    induction m with
    | zero => rfl
    | succ m ih => rw [List.replicate_succ, List.map_cons, ← ih]; rfl
  have hne : p ≠ b := by rintro rfl; rw [set_eq] at hp; cases hp
  refine hK p b _ hb ⟨⟨_, set_eq, ?_⟩, ⟨85, ?_⟩, hne, ?_, ?_, ?_, h5, ?_⟩ (fun i k hi => le_new _ hp _ _ (le_new _ hb _ _ hi))
  · rw [List.length_replicate]
  · rw [set_diff (Ne.symm hne), set_eq, hz]
  · intro q hq
    rw [List.eq_of_mem_replicate hq]
    exact ⟨⟨rfl, fun h => absurd rfl h⟩, Nat.le_refl _, fun h => absurd rfl h⟩
  · rw [List.length_replicate]; omega
  · rw [List.length_replicate]; omega
  · intro q hq
    rw [List.eq_of_mem_replicate hq]
    simp; omega
end Go.Ev
