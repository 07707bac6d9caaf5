/-
  CacheSets, the walk: it answers true.
  Conditions: none.
-/
import Derived.Test.YtohkplmfihhhnaaDoorCsl
set_option linter.unusedVariables false
set_option linter.unusedSimpArgs false
set_option maxRecDepth 100000
namespace Go.Ev
open Go

theorem fold_len : ∀ (l o : List Int), (l.foldl (fun o x => insU x o) o).length ≤ o.length + l.length
  | [], o => by simp
  | x :: l, o => by
    have h1 := fold_len l (insU x o)
    have h2 := insU_len x o
    rw [List.foldl_cons, List.length_cons]; omega
theorem sortU_len (l : List Int) : (sortU l).length ≤ l.length := by
  have := fold_len l []
  simpa [sortU] using this

/-- A block apart from a slice's own. -/
abbrev Ap (A : Option Addr) (C : Nat) (b : Nat) : Prop := C ≠ 0 → ∀ ad, A = some ad → ad.block ≠ b

theorem CAt.keepP {σ σ' : Store} {p sb : Nat} {ways : Int} {ps : List SetH} (h : CAt σ p sb ways ps) (P : Nat → Prop) (hp : P p) (hsb : P sb) (hq : ∀ q ∈ ps, q.1.2.1 ≠ 0 → ∀ ad, q.1.1 = some ad → P ad.block)
    (hk : ∀ b k, P b → σ b = some k → σ' b = some k) : CAt σ' p sb ways ps := by
  refine ⟨h.hp.imp fun k x => ⟨hk _ _ hp x.1, x.2⟩, h.hs.imp fun ty x => hk _ _ hsb x, h.ne, fun q hx => ?_, h.pos, h.le, h.w8, h.few⟩
  have := h.el q hx
  refine ⟨⟨this.l.1, fun hn => ?_⟩, this.c, this.f⟩
  obtain ⟨b, o, k, e, hb, r⟩ := this.l.2 hn
  exact ⟨b, o, k, e, hk b k (hq q hx hn _ e) hb, r⟩

/-- One more number behind a slice of one's own: nothing else turns. -/
theorem app_own {σ0 σ : Store} {A : Option Addr} {N C : Nat} {th : List Int} (ho : Own iC 1 σ0 σ A N C th) (hN : N ≤ 100000) (k : Int) {K : Option Addr → Nat → Nat → Store → Prop}
    (hK : ∀ A' N' C' σ', IsL iC 1 σ' A' N' (th ++ [k]) → (∀ b kk, Ap A C b → σ b = some kk → σ' b = some kk) → K A' N' C' σ') :
    AppK 3 1 8 [.int .i64 0] σ A N C [.int .i64 k] 1 K := by
  rcases Nat.eq_zero_or_pos C with hC | hC
  · have : Own iC 1 σ σ A N C th := ⟨ho.1, ho.2.1, fun h => absurd hC h⟩
    exact Own.app (enc := iC) iLen iOne this (fun _ h => h) rfl (ys := [k]) rfl rfl (by simp; omega) (by simp; omega) fun A' N' C' σ' ho' hk' => hK _ _ _ _ ho'.isL fun b kk _ hb => hk'.le Store.le_rfl _ _ hb
  · obtain ⟨b, o, blk, rfl, hs0, hb, hf, hl, hx⟩ := ho.2.2 (by omega)
    have : Own iC 1 (fun i => if i = b then none else σ i) σ (some ⟨b, o, none⟩) N C th := ⟨ho.1, ho.2.1, fun _ => ⟨b, o, blk, rfl, by simp, hb, hf, hl, hx⟩⟩
    refine Own.app (enc := iC) iLen iOne this (fun i h => ?_) rfl (ys := [k]) rfl rfl (by simp; omega) (by simp; omega) fun A' N' C' σ' ho' hk' => hK _ _ _ _ ho'.isL fun i kk hi hb => ?_
    · split at h
      · exact absurd rfl h
      · exact h
    · have hne : i ≠ b := fun e => hi (by omega) _ rfl e.symm
      rw [hk'.same i (by rw [if_neg hne, hb]; simp)]; exact hb

/-- The list's slice, and the cache apart from it. -/
structure Th (σ0 σ : Store) (p sb : Nat) (ps : List SetH) (A : Option Addr) (N C : Nat) (th : List Int) : Prop where
  own : Own iC 1 σ0 σ A N C th
  hp : Ap A C p
  hs : Ap A C sb
  hq : ∀ q ∈ ps, q.1.2.1 ≠ 0 → ∀ ad, q.1.1 = some ad → Ap A C ad.block

theorem Th.chg {σ0 σ σ' : Store} {p sb : Nat} {ps ps' : List SetH} {A : Option Addr} {N C : Nat} {th : List Int} (h : Th σ0 σ p sb ps A N C th) (hc : Chg sb σ σ' ps ps') : Th σ0 σ' p sb ps' A N C th := by
  refine ⟨⟨h.own.1, h.own.2.1, fun hC => ?_⟩, h.hp, h.hs, fun q hq hn ad e hC ad2 e2 => ?_⟩
  · obtain ⟨b, o, k, e, hs0, hb, r⟩ := h.own.2.2 hC
    exact ⟨b, o, k, e, hs0, hc.md b k (h.hs hC _ e) hb, r⟩
  · rcases hc.fr q hq with hq | hf
    · exact h.hq q hq hn ad e hC ad2 e2
    · obtain ⟨b, o, k, e3, hs0, hb, r⟩ := h.own.2.2 hC
      rw [e3] at e2; cases e2
      intro hh
      have h1 := hf hn ad e
      rw [← hh] at h1
      have h2 : σ b = none := h1
      rw [hb] at h2; cases h2

section
variable {σ0 : Store} {E : Nat → Nat × Nat} {la : Option Addr} {ln lc : Nat} {ls : List Int} {d0 d1 d2 d3 : Int} {K : Value → Store → Prop} {rr11 : corrallaw17_CacheSets.R11}

theorem cs_j24 {σ : Store} {p sb : Nat} {ps : List SetH} {A : Option Addr} {N C : Nat} {th : List Int} (i : Nat) (hi : i < 1000) (k : Int) (hk : 0 ≤ k) (hl : σ0.le σ) (hsb : σ0 sb = none)
    {M : Sets} (e : Ent) (he : e = ⟨k, IntKind.wrap .i64 (1 + (Int.tmod (i : Int) 4)), d0, d1, d2, d3⟩) (hI : Inv M th) (C1 : CAt σ p sb 2 ps) (hM : sets ps = turnM M e) (hT : Th σ0 σ p sb ps A N C th) (hlen : th.length ≤ i)
    (hr : ∀ σ' A' N' C', CAt σ' p sb 2 ps → σ0.le σ' → Th σ0 σ' p sb ps A' N' C' (sortU (th ++ [k])) → rr11 la ln lc (some ⟨p, 0, none⟩) A' N' C' ((i + 1 : Nat) : Int) d0 d1 d2 d3 σ') :
    corrallaw17_CacheSets.j24 K rr11 la ln lc (some ⟨p, 0, none⟩) A N C (i : Int) k true d0 d1 d2 d3 σ := by
  have hN := hT.own.1
  unfold corrallaw17_CacheSets.j24
  rw [cond_true]
  refine app_own hT.own (by omega) k fun A1 N1 C1' σ1 h1 hk1 => ?_
  have hC1 := C1.keepP (Ap A C) hT.hp hT.hs hT.hq hk1
  have hl1 : σ0.le σ1 := fun b kk hb => hk1 b kk (fun hC ad e hh => by
    obtain ⟨b', o, x, e', hs0, _⟩ := hT.own.2.2 hC
    rw [e'] at e; cases e
    have : b' = b := hh
    rw [this] at hs0; rw [hs0] at hb; cases hb) (hl _ _ hb)
  refine sorted_spec h1 (by rw [List.length_append, List.length_singleton]; omega) fun A2 N2 C2 σ2 ho2 hl2 => ⟨_, _, _, rfl, ?_⟩
  have hC2 := hC1.mono hl2
  have hf : findM (sets ps) k = some e := by
    have := hI.found e (by rw [he]; exact hk)
    rw [← hM] at this
    rw [he] at this ⊢; exact this
  refine find_pur hC2 k _ ?_
  rw [hf, he]
  refine ⟨_, _, _, _, _, _, _, rfl, ?_⟩
  refine cond_f (by rfl) (cond_f (by simp) (sameLine_pur _ _ _ _ _ _ _ _ _ _ ⟨_, rfl, ?_⟩))
  refine cond_f (by simp) (hopI (hopI ?_))
  rw [wrap_succ (by omega)]
  have apart : ∀ b, σ1 b ≠ none → Ap A2 C2 b := fun b hb hC ad e => by
    obtain ⟨b', o, x, e', hs0, _⟩ := ho2.2.2 hC
    rw [e'] at e; cases e
    rintro rfl
    exact hb hs0
  obtain ⟨x, hx, _⟩ := hC1.hp
  obtain ⟨ty, hs⟩ := hC1.hs
  refine hr σ2 A2 N2 C2 hC2 (fun b kk hb => hl2 _ _ (hl1 _ _ hb)) ⟨ho2.base (some_ne hl1), apart p (by rw [hx]; simp), apart sb (by rw [hs]; simp), fun q hq hn ad e => ?_⟩
  obtain ⟨b, o, y, e3, hb, _⟩ := (hC1.el q hq).l.2 hn
  rw [e3] at e; cases e
  exact apart b (by rw [hb]; simp)

theorem cs_j22 (hE : Errs σ0 E) {σ : Store} {p sb : Nat} {ps : List SetH} {A : Option Addr} {N C : Nat} {th : List Int} (i : Nat) (hi : i < 1000) (k : Int) (hk : 0 ≤ k) (hl : σ0.le σ) (hsb : σ0 sb = none)
    (hI : Inv (sets ps) th) (C0 : CAt σ p sb 2 ps) (hT : Th σ0 σ p sb ps A N C th) (hlen : th.length ≤ i)
    (hr : ∀ σ' ps' A' N' C' th', CAt σ' p sb 2 ps' → σ0.le σ' → Th σ0 σ' p sb ps' A' N' C' th' → Inv (sets ps') th' → th'.length ≤ i + 1 → rr11 la ln lc (some ⟨p, 0, none⟩) A' N' C' ((i + 1 : Nat) : Int) d0 d1 d2 d3 σ')
    (room : Bool) (hroom : roomM (sets ps) 2 k = room) :
    corrallaw17_CacheSets.j22 K rr11 la ln lc (some ⟨p, 0, none⟩) A N C (i : Int) k room d0 d1 d2 d3 σ := by
  have hw : IntKind.wrap .i64 (1 + (Int.tmod (i : Int) 4)) = ((1 + i % 4 : Nat) : Int) := by
    rw [Int.tmod_eq_emod_of_nonneg (by omega), wrap_id (by omega) (by omega)]; omega
  refine room_pur C0 k _ ⟨_, rfl, ?_⟩
  rw [hroom]
  refine cond_f (by simp) ?_
  have hpe : putRes (sets ps) 2 ⟨k, IntKind.wrap .i64 (1 + (Int.tmod (i : Int) 4)), d0, d1, d2, d3⟩ = if room then none else some 6 := by
    unfold putRes
    rw [if_neg (by dsimp only; omega), if_neg (by dsimp only; rw [hw]; omega), ← hroom]
  refine put_spec (hE.le hl) C0 ⟨k, IntKind.wrap .i64 (1 + (Int.tmod (i : Int) 4)), d0, d1, d2, d3⟩ (fun kk hkk => ⟨_, rfl, ?_⟩) fun hn ps' σ' C1 hM hc => ⟨_, rfl, ?_⟩
  · rw [hpe] at hkk
    cases hR : room
    · refine ifaceNil_err kk (hopI (hopI (hopI ?_)))
      rw [wrap_succ (by omega)]
      exact hr σ ps A N C th C0 hl hT hI (by omega)
    · rw [hR] at hkk; cases hkk
  · rw [hpe] at hn
    cases hR : room
    · rw [hR] at hn; cases hn
    · refine hopI ?_
      have hl' := le_md hl hsb hc.md
      refine cs_j24 i hi k hk hl' hsb _ rfl hI C1 hM (hT.chg hc) hlen fun σ2 A2 N2 C2 h1 h2 h3 => hr σ2 ps' A2 N2 C2 _ h1 h2 h3 (by rw [hM]; exact hI.turn _ hk) ?_
      have := sortU_len (th ++ [k])
      rw [List.length_append, List.length_singleton] at this
      omega

theorem cs_cnt (hE : Errs σ0 E) {σ : Store} {p : Nat} {A : Option Addr} {N C : Nat} {th : List Int} (i : Nat) (k : Int) (h : IsL iC 1 σ A N th) (hlen : th.length ≤ 1000)
    (hj : corrallaw17_CacheSets.j20 K rr11 la ln lc (some ⟨p, 0, none⟩) A N C (i : Int) k ((cntL k th : Nat) : Int) d0 d1 d2 d3 σ) (r : Nat) :
    ∀ j m : Nat, j + r = th.length → m ≤ j → m + cntL k (th.drop j) = cntL k th → corrallaw17_CacheSets.l16 K rr11 (r + 1) la ln lc (some ⟨p, 0, none⟩) A N C (i : Int) k (m : Int) (j : Int) d0 d1 d2 d3 σ := by
  have hN := h.1
  induction r with
  | zero =>
    intro j m hj' hm he
    rw [List.drop_of_length_le (by omega)] at he
    have he : m = cntL k th := by simpa [cntL] using he
    subst he
    exact cond_f (by simp; omega) (hopI hj)
  | succ r ih =>
    intro j m hj' hm he
    have hlt : j < th.length := by omega
    rw [List.drop_eq_getElem_cons hlt] at he
    unfold cntL at he
    rw [List.filter_cons] at he
    refine cond_t (by simp; omega) (h.at1 (e := fun x => Value.int .i64 x) j rfl hlt fun B O hc => ⟨_, hc, cond_i (fun e => hopI ?_) (fun e => hopI ?_)⟩)
    · show corrallaw17_CacheSets.l16 K rr11 (r + 1) la ln lc (some ⟨p, 0, none⟩) A N C (i : Int) k _ _ d0 d1 d2 d3 σ
      rw [wrap_succ (by omega), wrap_succ (by omega)]
      refine ih (j + 1) (m + 1) (by omega) (by omega) ?_
      rw [e, if_pos rfl, List.length_cons] at he
      unfold cntL; omega
    · show corrallaw17_CacheSets.l16 K rr11 (r + 1) la ln lc (some ⟨p, 0, none⟩) A N C (i : Int) k _ _ d0 d1 d2 d3 σ
      rw [wrap_succ (by omega)]
      refine ih (j + 1) m (by omega) (by omega) ?_
      rw [e, if_neg (by simp)] at he
      exact he
end

theorem and15 (x : Int) : 0 ≤ andI .i64 x 15 := by
  have h : andI .i64 x 15 = IntKind.wrap .i64 (((BitVec.ofInt 64 x &&& BitVec.ofInt 64 15).toNat : Nat) : Int) := rfl
  have h2 : (BitVec.ofInt 64 x &&& BitVec.ofInt 64 15).toNat ≤ 15 := by
    rw [BitVec.toNat_and]; exact Nat.and_le_right
  rw [h, wrap_id (by omega) (by omega)]
  omega

theorem tot_le : ∀ ps : List SetH, (∀ q ∈ ps, (q.2.length : Int) ≤ 2) → tot ps ≤ 2 * ps.length
  | [], _ => by simp [tot]
  | q :: l, h => by
    have h1 := h q (List.mem_cons_self ..)
    have h2 := tot_le l fun q hq => h q (List.mem_cons_of_mem _ hq)
    unfold tot; rw [List.length_cons]; omega

theorem cacheSets_spec {σ0 : Store} {E : Nat → Nat × Nat} (hE : Errs σ0 E) {la : Option Addr} {ln lc : Nat} {ls : List Int} (hls : IsL iC 1 σ0 la ln ls) (d0 d1 d2 d3 : Int) {K : Value → Store → Prop} (hK : ∀ σ', σ0.le σ' → K (.bool true) σ') :
    Spec Pr F.corrallaw17_CacheSets [.slice la ln lc, .agg #[.int .u32 d0, .int .u32 d1, .int .u32 d2, .int .u32 d3]] σ0 K := by
  have hn := hls.1
  refine corrallaw17_CacheSets.ok (first_spec hE ⟨_, rfl, ?_⟩)
  show cond (decide (((ln : Nat) : Int) > 30)) _ _
  refine cond_i (fun _ => hK _ Store.le_rfl) (fun e => ?_)
  have hln : ls.length ≤ 30 := by simp at e; omega
  refine hopI (new_spec 4 2 (by decide) (by decide) (by decide) (by decide) (by decide) fun p sb σ1 hsb C1 l1 => ⟨_, _, rfl, hopI (hopI ⟨ls.length + 1, ?_⟩)⟩)
  have loop : ∀ (r i : Nat) (σ : Store) (ps : List SetH) (A : Option Addr) (N C : Nat) (th : List Int), i + r = ls.length → CAt σ p sb 2 ps → σ0.le σ → Th σ0 σ p sb ps A N C th → Inv (sets ps) th → th.length ≤ i →
      corrallaw17_CacheSets.l11 K (r + 1) la ln lc (some ⟨p, 0, none⟩) A N C (i : Int) d0 d1 d2 d3 σ := by
    intro r
    induction r with
    | zero =>
      intro i σ ps A N C th hi hC hl hT hI hlen
      refine cond_f (by simp; omega) (hopI ?_)
      have ht := hI.tot
      have h8 : totM (sets ps) ≤ 12 := by
        rw [← tot_sets]
        have := tot_le ps hC.few
        have h4 := hI.hM
        rw [List.length_map] at h4
        omega
      refine len_pur hC h8 _ ⟨_, rfl, ?_⟩
      have e : ((totM (sets ps) : Int) == ((N : Nat) : Int)) = true := by rw [ht, hT.own.1]; simp
      rw [e]
      exact hK _ hl
    | succ r ih =>
      intro i σ ps A N C th hi hC hl hT hI hlen
      have hlt : i < ls.length := by omega
      refine cond_t (by simp; omega) ((hls.mono hl).at1 (e := fun x => Value.int .i64 x) i rfl hlt fun B O hc => ⟨_, hc, hopI ⟨th.length + 1, ?_⟩⟩)
      have hk := and15 (ls[i])
      generalize andI .i64 ls[i] 15 = k at hk
      refine cs_cnt hE i k hT.own.isL (by omega) ?_ th.length 0 0 (by omega) (by omega) (by simp)
      refine among_pur hT.own.isL (by omega) k _ ⟨_, rfl, ?_⟩
      have hroom := hI.room k hk
      have nx := cs_j22 (K := K) (la := la) (ln := ln) (lc := lc) (d0 := d0) (d1 := d1) (d2 := d2) (d3 := d3) (rr11 := corrallaw17_CacheSets.l11 K (r + 1)) hE i (by omega) k hk hl hsb hI hC hT hlen (fun σ' ps' A' N' C' th' h1 h2 h3 h4 h5 => ih (i + 1) σ' ps' A' N' C' th' (by omega) h1 h2 h3 h4 h5)
      refine cond_i (fun e => hopI (nx true ?_)) (fun e => hopI (nx _ ?_))
      · rw [hroom, e, Bool.true_or]
      · rw [hroom, e, Bool.false_or]
  have h0 : Th σ0 σ1 p sb (List.replicate (4 : Int).toNat ((none, 0, 0), [])) none 0 0 [] := ⟨Own.nil _ _ _ _, fun h => absurd rfl h, fun h => absurd rfl h, fun _ _ _ _ _ h => absurd rfl h⟩
  exact loop ls.length 0 σ1 _ none 0 0 [] (by omega) C1 l1 h0 Inv.new (by simp)
end Go.Ev
