/-
  HomeAlone: whatever the wishes and the data, it answers true.
  Conditions: none.
-/
import Derived.Test.YtohkplmfihhhnaaHw2
import Derived.Test.YtohkplmfihhhnaaFa1
set_option linter.unusedVariables false
namespace Go.Ev.Hom
open Go

theorem andI_range (x : Int) (m : Nat) (hm : m < 9223372036854775808) : 0 ≤ andI .i64 x (m : Int) ∧ andI .i64 x (m : Int) ≤ (m : Int) := by
  unfold andI
  have h1 : (BitVec.ofInt IntKind.i64.bits x &&& BitVec.ofInt IntKind.i64.bits (m : Int)).toNat ≤ m := by
    rw [BitVec.toNat_and]
    refine Nat.le_trans Nat.and_le_right ?_
    show (BitVec.ofInt 64 (m : Int)).toNat ≤ m
    rw [BitVec.ofInt_natCast, BitVec.toNat_ofNat]
    exact Nat.mod_le _ _
  rw [wrap_id (by omega) (by omega)]
  omega

/-- Nothing that was there has changed. -/
def Same (σ0 σ : Store) : Prop := ∀ b, σ0 b ≠ none → σ b = σ0 b

section
variable {σ0 : Store} {p s v sb nb : Nat} {K : Value → Store → Prop} {r12 : corrallaw18_HomeAlone.R12} {wA : Option Addr} {wN wC : Nat} {i r_ : Int}

theorem alone_loop {σ : Store} {h : HM L4} {st : List Int} {now : L4} (L : LA σ0 p s v sb nb σ h st now) (hl : st.length = 4) (hr0 : 0 ≤ r_) (hr4 : r_ < 4) (ha : aloneOk st r_ = true)
    (hK : corrallaw18_HomeAlone.j13 K r12 wA wN wC (some ⟨p, 0, none⟩) (some ⟨sb, 0, none⟩) 4 4 nb 0 i σ) :
    ∀ (f k : Nat), k + f = 4 → corrallaw18_HomeAlone.l67 K r12 (f + 1) wA wN wC (some ⟨p, 0, none⟩) (some ⟨sb, 0, none⟩) 4 4 nb 0 i r_ (k : Int) σ
  | 0, k, hk => cond_f (by simp; omega) (hopI hK)
  | f + 1, k, hk => by
    have next := alone_loop L hl hr0 hr4 ha hK f (k + 1) (by omega)
    rw [← wrap_succ (show k < 4611686018427387904 by omega)] at next
    have getSt : ∀ (k : Int), 0 ≤ k → k < 4 → ∀ (KK : Int → Prop), KK (st.getD k.toNat 0) →
        Req (decide (0 ≤ k) && decide (k < ((4 : Nat) : Int))) (PtrNN (some ⟨sb, 0, none⟩) fun B O => ∃ t : Int, cellAt σ B (O + k.toNat * 1) = some (.int .i64 t) ∧ KK t) := by
      intro k k0 k4 KK hKK
      exact rq (by simp; omega) (ptrI ⟨_, L.readSt (by omega), hKK⟩)
    have hk' : ((k : Int) == r_ || st.getD k 0 == 0 || !(st.getD r_.toNat 0 == 4 || st.getD r_.toNat 0 == 2)) = true := by
      unfold aloneOk at ha
      rw [List.all_eq_true] at ha
      refine ha k ?_
      have : k = 0 ∨ k = 1 ∨ k = 2 ∨ k = 3 := by omega
      rcases this with rfl | rfl | rfl | rfl <;> simp
    refine cond_t (by simp; omega) (cond_i (fun e => ?_) (fun e => hopI next))
    have e1 : ((k : Int) == r_) = false := by simpa using e
    refine getSt k (by omega) (by omega) _ (cond_i (fun e2 => ?_) (fun e2 => hopI next))
    have e3 : (st.getD k 0 == 0) = false := by simpa using e2
    rw [e1, e3] at hk'
    simp only [Bool.false_or, Bool.not_eq_true', Bool.or_eq_false_iff] at hk'
    exact getSt r_ hr0 hr4 _ (cond_f hk'.1 (getSt r_ hr0 hr4 _ (cond_f hk'.2 (hopI next))))

theorem LA.setNow {σ : Store} {h : HM L4} {st : List Int} {now : L4} (L : LA σ0 p s v sb nb σ h st now) {i : Nat} (hi : i < 4) (x : Int) {KK : Store → Prop}
    (hK : ∀ σ' now', LA σ0 p s v sb nb σ' h st now' → KK σ') : StoreK σ nb (0 + i * 1) 1 [.int .u32 x] KK := by
  have d1 := L.d1
  have h4 : ∃ now' : L4, spliceL now.cells (0 + i * 1) [.int .u32 x] = now'.cells := by
    have : i = 0 ∨ i = 1 ∨ i = 2 ∨ i = 3 := by omega
    rcases this with rfl | rfl | rfl | rfl
    · exact ⟨⟨x, now.b, now.c, now.d⟩, rfl⟩
    · exact ⟨⟨now.a, x, now.c, now.d⟩, rfl⟩
    · exact ⟨⟨now.a, now.b, x, now.d⟩, rfl⟩
    · exact ⟨⟨now.a, now.b, now.c, x⟩, rfl⟩
  obtain ⟨now', e⟩ := h4
  refine Go.Ev.st L.hnow rfl rfl rfl (by show 0 + i * 1 + 1 ≤ 4; omega) (hK _ now' ⟨⟨?_, ?_, ?_, L.home.sv, L.home.sp, L.home.vp⟩, ?_, ?_, d1, ?_, L.fr⟩)
  · rw [set_diff d1.2.2.2.1.symm]; exact L.home.hp
  · rw [set_diff d1.2.2.2.2.1.symm]; exact L.home.hs
  · rw [set_diff d1.2.2.2.2.2.1.symm]; exact L.home.hv
  · rw [set_diff d1.2.2.2.2.2.2.symm]; exact L.hst
  · rw [set_same]; exact congrArg (fun l => some (Blk.mk 25 l (0, 0))) e
  · intro b hb; rw [set_diff (fun e => hb (by rw [e]; exact L.fr.2.2.2.2))]; exact L.base b hb

theorem wishes_loop {ws : List Int} (hws : IsL (fun x => [Value.int .i64 x]) 1 σ0 wA wN ws) (hn : ws.length ≤ 60) (hK : ∀ σ', Same σ0 σ' → (∀ b, σ0 b ≠ none → σ' b ≠ none) → K (.bool true) σ') :
    ∀ (f n : Nat) (h : HM L4) (st : List Int) (now : L4) (σ : Store), n + f = ws.length → LA σ0 p s v sb nb σ h st now → st.length = 4 → h.WF → Inv h st now →
      corrallaw18_HomeAlone.l12 K (f + 1) wA wN wC (some ⟨p, 0, none⟩) (some ⟨sb, 0, none⟩) 4 4 nb 0 (n : Int) σ
  | 0, n, h, st, now, σ, hn', L, hl, W, I => by
    refine cond_f ?_ (hopI (hK σ L.base L.dom.2.2.2.2.2))
    rw [hws.1]; simp; omega
  | f + 1, n, h, st, now, σ, hn', L, hl, W, I => by
    have hws' : IsL (fun x => [Value.int .i64 x]) 1 σ wA wN ws := hws.mono fun b k hb => by rw [L.base b (by rw [hb]; simp)]; exact hb
    refine cond_t (by rw [hws.1]; simp; omega) (hws'.at1 n rfl (by omega) fun B O hc => ⟨_, hc, hws'.at1 n rfl (by omega) fun B2 O2 hc2 => ⟨_, hc2, ?_⟩⟩)
    have next : ∀ (h : HM L4) (st : List Int) (now : L4) (σ : Store), LA σ0 p s v sb nb σ h st now → st.length = 4 → h.WF → Inv h st now → corrallaw18_HomeAlone.l12 K (f + 1) wA wN wC (some ⟨p, 0, none⟩) (some ⟨sb, 0, none⟩) 4 4 nb 0 (IntKind.wrap .i64 ((n : Int) + 1)) σ := by
      intro h st now σ L hl W I
      rw [wrap_succ (by omega)]
      exact wishes_loop hws hn hK f (n + 1) h st now σ (by omega) L hl W I
    obtain ⟨hr0, hr3⟩ := andI_range ws[n] 3 (by omega)
    generalize hr : andI .i64 ws[n] 3 = r at *
    have hr' : andI .i64 ws[n] ((3 : Nat) : Int) = r := hr
    have hr4 : r < 4 := by omega
    have getSt : ∀ (KK : Int → Prop), KK (st.getD r.toNat 0) →
        Req (decide (0 ≤ r) && decide (r < ((4 : Nat) : Int))) (PtrNN (some ⟨sb, 0, none⟩) fun B O => ∃ t : Int, cellAt σ B (O + r.toNat * 1) = some (.int .i64 t) ∧ KK t) := by
      intro KK hKK
      exact rq (by simp; omega) (ptrI ⟨_, L.readSt (by omega), hKK⟩)
    refine getSt _ (cond_i (fun e => hopI (hopI (next h st now σ L hl W I))) (fun e4 => getSt _ (cond_i (fun e => hopI (hopI (next h st now σ L hl W I))) (fun e2 => ?_))))
    generalize hw : (andI .i64 (shrI .i64 ws[n] 2) 1 == 1) = w
    -- the wish is uttered
    have j17 : (!w && st.getD r.toNat 0 != 0) = false → corrallaw18_HomeAlone.j17 K (corrallaw18_HomeAlone.l12 K (f + 1)) wA wN wC (some ⟨p, 0, none⟩) (some ⟨sb, 0, none⟩) 4 4 nb 0 (n : Int) r w σ := by
      intro e0
      have hs : skips st r w = false := by unfold skips; rw [e4, e2, e0]; rfl
      obtain ⟨h', st', hrun, hb', hI, hal⟩ := wish L4.z I r hr0 hr4 w hs
      have j20 : ∀ k : Int, (ask L4.z r w).kind = k → corrallaw18_HomeAlone.j20 K (corrallaw18_HomeAlone.l12 K (f + 1)) wA wN wC (some ⟨p, 0, none⟩) (some ⟨sb, 0, none⟩) 4 4 nb 0 (n : Int) r w k σ := by
        intro k hk
        have em : ask L4.z r w = ⟨k, 0, r, -1, L4.z, false, false, false⟩ := by subst hk; rfl
        have tk := take_spec (K := fun v σ_ => ∃ t83A : Option Addr, ∃ t83N : Nat, ∃ t83C : Nat, v = .slice t83A t83N t83C ∧ Hop (corrallaw18_HomeAlone.T 23) (corrallaw18_HomeAlone.T 23) (∃ nn : Nat, corrallaw18_HomeAlone.l23 K (corrallaw18_HomeAlone.l12 K (f + 1)) nn wA wN wC (some ⟨p, 0, none⟩) (some ⟨sb, 0, none⟩) 4 4 nb 0 (n : Int) r w t83A t83N t83C false 0 σ_)) L.home W (ask L4.z r w) ?_
        · rw [em] at tk; exact tk
        intro σ1 a n1 c H1 M1 O1
        refine ⟨_, _, _, rfl, hopI ⟨_, msgs_loop L hr0 hr4 10 0 a n1 c _ st _ false σ1 h' st' true rfl (L.md M1 H1) hl O1 (by have := take_len L4.z h (ask L4.z r w) W; omega) M1.dom (HM.take_wf W _) hrun fun σ2 L2 W2 hl2 d2 => ?_⟩⟩
        refine cond_f rfl (busy_spec L2.home ⟨_, rfl, cond_f hb' (hopI ?_)⟩)
        refine cond_i (fun ew => ?_) (fun ew => hopI ?_)
        · subst ew
          refine rq (by simp; omega) (ptrI (L2.setSt (by omega) 4 fun σ3 L3 s3 d3 => ?_))
          obtain ⟨hi0, hi3⟩ := andI_range (n : Int) 3 (by omega)
          generalize andI .i64 (n : Int) 3 = q at *
          have hx : ∃ t : Int, cellAt σ3 nb (0 + q.toNat * 1) = some (.int .u32 t) := by
            have : q = 0 ∨ q = 1 ∨ q = 2 ∨ q = 3 := by omega
            rcases this with rfl | rfl | rfl | rfl
            · exact ⟨_, rd L3.hnow rfl⟩
            · exact ⟨_, rd L3.hnow rfl⟩
            · exact ⟨_, rd L3.hnow rfl⟩
            · exact ⟨_, rd L3.hnow rfl⟩
          obtain ⟨t, ht⟩ := hx
          refine rq (by simp; omega) ⟨t, ht, rq (by simp; omega) (L3.setNow (by omega) _ fun σ4 now' L4' => hopI (hopI ⟨_, alone_loop L4' (by simp [hl2]) hr0 hr4 hal (hopI (next _ _ now' σ4 L4' (by simp [hl2]) W2 (hI now'))) 4 0 rfl⟩))⟩
        · subst ew
          exact hopI ⟨_, alone_loop L2 hl2 hr0 hr4 hal (hopI (next _ _ now σ2 L2 hl2 W2 (hI now))) 4 0 rfl⟩
      refine cond_i (fun e => hopI (j20 2 ?_)) (fun e => hopI (j20 1 ?_))
      · rw [show w = true from e]; rfl
      · rw [show w = false from e]; rfl
    refine cond_i (fun e => getSt _ (cond_i (fun e' => hopI (hopI (next h st now σ L hl W I))) (fun e' => hopI (j17 ?_)))) (fun e => hopI (j17 ?_))
    · rw [e', Bool.and_false]
    · rw [show (!w) = false from e]; rfl

end

/-- One message of a list that is known. -/
theorem Own.one' {σ0 σ : Store} {a : Option Addr} {n c : Nat} {m : Msg L4} (h : OwnM σ0 σ a n c [m]) {Body : Nat → Nat → Prop} (hB : ∀ B O, cellsAt σ B O 11 = some m.cells → Body B O) :
    Req (decide ((0 : Int) ≤ 0) && decide ((0 : Int) < ((n : Nat) : Int))) (PtrNN a Body) :=
  IsL.at Msg.cells_length h.isL (t := 0) 0 rfl (by simp) fun B O hc => hB B O hc

theorem first_spec {σ : Store} {K : Value → Store → Prop} (hK : ∀ σ', Kept σ σ σ' → K (.bool true) σ') : Spec Pr F.corrallaw18_first [] σ K := by
  have m1 : Msg L4 := ⟨1, 3, 0, -1, L4.z, false, false, false⟩
  refine corrallaw18_first.ok (new_spec (σ := σ) 3 2 ⟨7, 0, 0, 0⟩ (by omega) (by omega) fun σ1 p s v H1 k1 fp fs fv => ⟨_, rfl, cond_f rfl ?_⟩)
  have W1 := HM.new_wf L4.z 3 2 ⟨7, 0, 0, 0⟩ (by omega) (by omega)
  refine take_spec H1 W1 ⟨1, 3, 0, -1, L4.z, false, false, false⟩ fun σ2 a n c H2 M2 O2 => ⟨_, _, _, rfl, owner_spec H2 ⟨_, rfl, take_spec H2 (HM.take_wf W1 _) ⟨12, 3, 0, -1, L4.z, false, false, false⟩ fun σ3 a3 n3 c3 H3 M3 O3 => ⟨_, _, _, rfl, ?_⟩⟩⟩
  refine take_spec H3 (HM.take_wf (HM.take_wf W1 _) _) ⟨1, 3, 1, -1, L4.z, false, false, false⟩ fun σ4 a4 n4 c4 H4 M4 O4 => ⟨_, _, _, rfl, ?_⟩
  have O2' : OwnM σ1 σ4 a n c [⟨7, 3, -1, 0, ⟨7, 0, 0, 0⟩, true, false, true⟩] := by
    have t : OwnM σ1 σ2 a n c [⟨7, 3, -1, 0, ⟨7, 0, 0, 0⟩, true, false, true⟩] := O2
    exact Own.ch t fun b hb hb' => ((M3.trans M4).same b (fun e => H1.np (by rw [← e]; exact hb)) (fun e => H1.ns (by rw [← e]; exact hb)) (fun e => H1.nv (by rw [← e]; exact hb)) hb')
  have O4' : OwnM σ3 σ4 a4 n4 c4 [⟨5, 3, -1, 0, L4.z, false, false, false⟩] := O4
  have en := O2'.1
  have en4 := O4'.1
  refine cond_t (by rw [en]; rfl) (Own.one' O2' fun B O hc => ⟨7, cells_part (i := 0) hc rfl (by omega), cond_t rfl (Own.one' O2' fun B2 Oo2 hc2 => ⟨true, cells_part (i := 10) hc2 rfl (by omega), cond_t rfl (cond_t rfl (cond_t (by rw [en4]; rfl) ?_))⟩)⟩)
  refine Own.one' O4' fun B O hc => ⟨5, cells_part (i := 0) hc rfl (by omega), cond_t rfl (Own.one' O4' fun B O hc => ⟨0, cells_part (i := 3) hc rfl (by omega), hK σ4 ?_⟩)⟩
  have M := M2.trans (M3.trans M4)
  exact ⟨fun b hb => (M.same b (fun e => hb (by rw [e]; exact fp)) (fun e => hb (by rw [e]; exact fs)) (fun e => hb (by rw [e]; exact fv)) (k1.dom b hb)).trans (k1.same b hb), fun b hb => M.dom b (k1.dom b hb)⟩

theorem homeAlone_spec {σ : Store} {wA : Option Addr} {wN wC : Nat} {ws : List Int} (hws : IsL (fun x => [Value.int .i64 x]) 1 σ wA wN ws) (d : L4) {K : Value → Store → Prop}
    (hK : ∀ σ', Same σ σ' → (∀ b, σ b ≠ none → σ' b ≠ none) → K (.bool true) σ') :
    Spec Pr F.corrallaw18_HomeAlone [.slice wA wN wC, d.agg] σ K := by
  refine corrallaw18_HomeAlone.ok (first_spec fun σ1 k1 => ⟨_, rfl, cond_f rfl (cond_i (fun e => ?_) (fun e => cond_f rfl (hopI ?_)))⟩)
  · exact hK σ1 k1.same k1.dom
  simp at e
  have S1 : Same σ σ1 := k1.same
  refine new_spec (σ := σ1) 0 4 d (by omega) (by omega) fun σ2 p s v H2 k2 fp fs fv => ⟨_, rfl, cond_f rfl ⟨by omega, by omega, by omega, by omega, fun sb hsb => fun nb hnb => ?_⟩⟩
  have nn : nb ≠ sb ∧ σ2 nb = none := by
    by_cases e : nb = sb
    · subst e; simp at hnb
    · rw [set_diff e] at hnb; exact ⟨e, hnb⟩
  have d2 : ∀ b, σ b ≠ none → σ2 b ≠ none := fun b hb => k2.dom b (k1.dom b hb)
  have f2 : ∀ b, σ2 b = none → σ b = none := by
    intro b hb
    cases e : σ b with
    | none => rfl
    | some x => exact absurd hb (d2 b (by rw [e]; simp))
  have f1 : ∀ b, σ1 b = none → σ b = none := by
    intro b hb
    cases e : σ b with
    | none => rfl
    | some x => exact absurd hb (k1.dom b (by rw [e]; simp))
  have ne : ∀ b b', σ2 b ≠ none → σ2 b' = none → b' ≠ b := fun b b' h h' e => h (by rw [← e]; exact h')
  refine Go.Ev.st (k := ⟨25, [.int .u32 0, .int .u32 0, .int .u32 0, .int .u32 0], (0, 0)⟩) (set_same _ _ _) rfl rfl rfl (by show 0 + 4 ≤ 4; omega) (hopI ⟨ws.length + 1, ?_⟩)
  rw [set_twice]
  have L : LA σ p s v sb nb (((σ2.set sb ⟨3, zeroN [.int .i64 0] (4 : Int).toNat, (0, 0)⟩).set nb ⟨25, d.cells, (0, 0)⟩)) (HM.new L4.z 0 4 d) [0, 0, 0, 0] d := by
    have a1 := ne _ _ H2.np hsb
    have a2 := ne _ _ H2.ns hsb
    have a3 := ne _ _ H2.nv hsb
    have b1 := ne _ _ H2.np nn.2
    have b2 := ne _ _ H2.ns nn.2
    have b3 := ne _ _ H2.nv nn.2
    refine ⟨⟨?_, ?_, ?_, H2.sv, H2.sp, H2.vp⟩, ?_, set_same _ _ _, ⟨a1, a2, a3, b1, b2, b3, nn.1⟩, fun b hb => ?_, f1 p fp, f1 s fs, f1 v fv, f2 sb hsb, f2 nb nn.2⟩
    · rw [set_diff b1.symm, set_diff a1.symm]; exact H2.hp
    · rw [set_diff b2.symm, set_diff a2.symm]; exact H2.hs
    · rw [set_diff b3.symm, set_diff a3.symm]; exact H2.hv
    · rw [set_diff nn.1.symm, set_same]; rfl
    · rw [set_diff (ne _ _ (d2 b hb) nn.2).symm, set_diff (ne _ _ (d2 b hb) hsb).symm, k2.same b (k1.dom b hb), k1.same b hb]
  exact wishes_loop hws (by have := hws.1; omega) hK ws.length 0 _ _ d _ (Nat.zero_add _) L rfl (HM.new_wf L4.z 0 4 d (by omega) (by omega)) ⟨by kernel_rfl, .inl rfl⟩

end Go.Ev.Hom
