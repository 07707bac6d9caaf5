/-
  The evaluator, part 7: what the model's writing operations do to a store.
  Conditions: none.
-/
import Derived.Test.YtohkplmfihhhnaaDoorEv6
namespace Go.Ev
open Go

section
variable {P : Program}

theorem semA_b {α β : Type} (s : Sem α) (f : α → Sem β) (σ : Store) (K : β → Store → Prop) : semA P (s >>= f) σ K ↔ semA P s σ (fun a σ => semA P (f a) σ K) := semA_bind s f
theorem semA_p {α : Type} (a : α) (σ : Store) (K : α → Store → Prop) : semA P (pure a) σ K ↔ K a σ := Iff.rfl
theorem semA_m {α β : Type} (s : Sem α) (f : α → β) (σ : Store) (K : β → Store → Prop) : semA P (f <$> s) σ K ↔ semA P s σ (fun a σ => K (f a) σ) := semA_bind s _
theorem semA_und {t : TypeId} {d : TypeDesc} (h : P.underlying t = some d) (σ : Store) (K : TypeDesc → Store → Prop) : semA P (underlying t) σ K ↔ K d σ := by
  show semA P (match P.underlying t with | some d => pure d | none => stuck "no such type") σ K ↔ K d σ
  rw [h]; rfl
theorem semA_info {t : TypeId} {i : TypeInfo} (h : P.info? t = some i) (σ : Store) (K : TypeInfo → Store → Prop) : semA P (typeInfo t) σ K ↔ K i σ := by
  show semA P (match P.info? t with | some d => pure d | none => stuck "no such type") σ K ↔ K i σ
  rw [h]; rfl
theorem semA_size {t : TypeId} {i : TypeInfo} (h : P.info? t = some i) (σ : Store) (K : Nat → Store → Prop) : semA P (sizeOf t) σ K ↔ K (sizeT P t) σ := by
  unfold sizeOf
  rw [semA_b, semA_info h]
  simp [semA_p, sizeT, h]
theorem semA_zero {t : TypeId} {z : Value} (h : zeroOf P t = some z) (σ : Store) (K : Value → Store → Prop) : semA P (zeroValue t) σ K ↔ K z σ := by
  unfold zeroOf at h
  split at h
  · rename_i i hi
    unfold zeroValue
    rw [semA_b, semA_info hi, h]
    exact Iff.rfl
  · cases h
theorem info_of_zero {t : TypeId} {z : Value} (h : zeroOf P t = some z) : ∃ i, P.info? t = some i := by
  unfold zeroOf at h
  split at h
  · rename_i i hi; exact ⟨i, hi⟩
  · cases h

theorem Store.set_set (σ : Store) (b : Nat) (k k' : Blk) : (σ.set b k).set b k' = σ.set b k' := by
  funext i; unfold Store.set; split <;> rfl

theorem spliceL_length : ∀ (vs : List Value) (cs : List Value) (off : Nat), (spliceL cs off vs).length = cs.length
  | [], _, _ => rfl
  | v :: r, cs, off => by unfold spliceL; rw [spliceL_length r]; simp

theorem semA_storeCells : ∀ (vs : List Value) (i : Nat) (σ : Store) (b off : Nat) (k : Blk) (K : Unit → Store → Prop), σ b = some k → off + i + vs.length ≤ k.cells.length → k.fz = (0, 0) → vs.all one = true →
    K () (if vs = [] then σ else σ.set b ⟨k.ty, spliceL k.cells (off + i) vs, (0, 0)⟩) → semA P (storeCells ⟨b, off, none⟩ vs i) σ K
  | [], _, _, _, _, _, _, _, _, _, _, h => h
  | v :: r, i, σ, b, off, k, K, hb, hl, hf, h1, h => by
    simp only [List.all_cons, Bool.and_eq_true] at h1
    simp only [List.length_cons] at hl
    unfold storeCells
    rw [semA_b]
    show semA P (store (Addr.add ⟨b, off, none⟩ i) v) σ _
    rw [Addr.add_lit]
    refine ⟨h1.1, rfl, k, hb, by show off + i < k.cells.length; omega, by simp [frozenIn, hf], ?_⟩
    refine semA_storeCells r (i + 1) _ b off ⟨k.ty, k.cells.set (off + i) v, k.fz⟩ K set_eq (by simp; omega) hf h1.2 ?_
    by_cases hr : r = []
    · subst hr
      simp only [reduceCtorEq, if_false, if_true, spliceL] at h ⊢
      rw [hf]; exact h
    · simp only [reduceCtorEq, if_false, hr, spliceL] at h ⊢
      rw [Store.set_set]
      rw [show off + (i + 1) = off + i + 1 by omega]
      exact h

theorem semA_storeAll {vs : List Value} {n : Nat} {σ : Store} {b off : Nat} {K : Unit → Store → Prop} (h : StoreK σ b off n vs (K ())) (hn : vs ≠ []) : semA P (storeCells ⟨b, off, none⟩ vs) σ K := by
  obtain ⟨hl, h1, k, hb, hle, hf, h⟩ := h
  refine semA_storeCells vs 0 σ b off k K hb (by omega) hf h1 ?_
  rw [if_neg hn]
  exact h

theorem semA_storeVar {t : TypeId} {v : Value} {σ : Store} {b off : Nat} {K : Unit → Store → Prop} {i : TypeInfo} (hi : P.info? t = some i)
    (h : StoreK σ b off (sizeT P t) v.cells.toList (K ())) (hn : v.cells.toList ≠ []) : semA P (storeVar t ⟨b, off, none⟩ v) σ K := by
  unfold storeVar
  have hl : v.cells.size = sizeT P t := by have := h.1; simpa using this
  rw [semA_b, semA_size hi]
  rw [if_neg (by simp [hl])]
  exact semA_storeAll h hn

theorem semA_load {b off : Nat} {v : Value} {σ : Store} (h : cellAt σ b off = some v) (K : Value → Store → Prop) (hk : K v σ) : semA P (load ⟨b, off, none⟩) σ K := by
  refine ⟨v, ?_, hk⟩
  unfold cellAt at h
  unfold cellOf
  split at h
  · rename_i k hb; simp [hb, h]
  · cases h

theorem semA_loadCellsFrom : ∀ (l : List Value) (i : Nat) (acc : Array Value) (σ : Store) (b off : Nat) (K : Array Value → Store → Prop), (∀ j v, l[j]? = some v → cellAt σ b (off + i + j) = some v) →
    K (acc ++ l.toArray) σ → semA P (loadCellsFrom ⟨b, off, none⟩ i l.length acc) σ K
  | [], i, acc, σ, b, off, K, _, h => by
    show K acc σ
    simpa using h
  | v :: r, i, acc, σ, b, off, K, hc, h => by
    show semA P (load (Addr.add ⟨b, off, none⟩ i) >>= fun v => loadCellsFrom ⟨b, off, none⟩ (i + 1) r.length (acc.push v)) σ K
    rw [semA_b, Addr.add_lit]
    refine semA_load (by simpa using hc 0 v rfl) _ ?_
    refine semA_loadCellsFrom r (i + 1) (acc.push v) σ b off K (fun j u hu => ?_) ?_
    · have := hc (j + 1) u (by simpa using hu)
      rwa [show off + (i + 1) + j = off + i + (j + 1) by omega]
    · simpa using h

theorem cellsAt_cell {σ : Store} {b off n : Nat} {l : List Value} (hc : cellsAt σ b off n = some l) : ∀ j v, l[j]? = some v → cellAt σ b (off + j) = some v := by
  obtain ⟨k, hk, hl, rfl⟩ := cellsAt_get hc
  intro j v hv
  rw [List.getElem?_take] at hv
  split at hv
  · rw [List.getElem?_drop] at hv
    simp [cellAt, hk, hv]
  · cases hv

theorem semA_loadCells {σ : Store} {b off n : Nat} {l : List Value} (hc : cellsAt σ b off n = some l) {K : Array Value → Store → Prop} (h : K l.toArray σ) : semA P (loadCells ⟨b, off, none⟩ n) σ K := by
  have hn := cellsAt_length hc
  subst hn
  refine semA_loadCellsFrom l 0 #[] σ b off K (fun j v hv => by simpa using cellsAt_cell hc j v hv) (by simpa using h)

/-- The first cells of a slice. -/
theorem semA_first {σ : Store} {a : Option Addr} {esz n m c : Nat} {l : List Value} (hc : srcCells σ a (n * esz) = some l) {K : Array Value → Store → Prop} (h : K l.toArray σ) :
    semA P (Builtin.firstCells esz n (.slice a m c)) σ K := by
  unfold srcCells at hc
  cases a with
  | none =>
    split at hc
    · cases hc; exact h
    · cases hc
  | some ad =>
    show semA P (loadCells ad (n * esz)) σ K
    split at hc
    · rename_i h0
      cases hc
      rw [h0]
      exact h
    · split at hc
      · rename_i b o ha
        cases ha
        exact semA_loadCells hc h
      · cases hc

theorem semA_askRoom (n : Nat) (σ : Store) (K : Unit → Store → Prop) : semA P (askRoom n) σ K ↔ K () σ := by
  unfold askRoom; split <;> exact Iff.rfl

theorem zeroCells_list (zs : Array Value) : ∀ n : Nat, (Builtin.zeroCells zs n).toList = zeroN zs.toList n := by
  intro n
  unfold Builtin.zeroCells zeroN
  induction n with
  | zero => simp
  | succ n ih =>
    rw [List.replicate_succ', List.flatten_append, ← ih]
    simp only [Array.toList_map, Array.toList_range, List.flatten_cons, List.flatten_nil, List.append_nil]
    rw [Nat.succ_mul, List.range_add, List.map_append]
    congr 1
    apply List.ext_getElem?
    intro i
    simp only [List.getElem?_map]
    by_cases hi : i < zs.size
    · simp [hi, Nat.add_comm (n * zs.size), Nat.mod_eq_of_lt hi]
    · simp [hi]

theorem nextslicecap_le (need c : Nat) : Builtin.nextslicecap need c ≤ 2 * need + 768 ∨ need ≤ c := by
  by_cases h : need ≤ c
  · exact .inr h
  · left
    unfold Builtin.nextslicecap
    split
    · omega
    · split
      · omega
      · have g : ∀ (r x : Nat), x < 2 * need + 1 → Builtin.growBy need r x ≤ 2 * need + 768 := by
          intro r
          induction r with
          | zero => intro x hx; unfold Builtin.growBy; omega
          | succ r ih =>
            intro x hx
            unfold Builtin.growBy
            split
            · omega
            · rename_i hlt
              by_cases h4 : x + (x + 768) / 4 < 2 * need + 1
              · exact ih _ h4
              · cases r with
                | zero => unfold Builtin.growBy; omega
                | succ r => unfold Builtin.growBy; rw [if_pos (by omega)]; omega
        exact g 4 c (by omega)

theorem semA_append {t1 t2 ty el el2 : TypeId} {i : TypeInfo} {z : Value} (h1 : P.underlying t1 = some (.slice el)) (h2 : P.underlying t2 = some (.slice el2)) (hi : P.info? el = some i) (hz : zeroOf P el = some z)
    {σ : Store} {a a2 : Option Addr} {n c m c2 : Nat} {ys : List Value} {K : Value → Store → Prop} (hs : srcCells σ a2 (m * sizeT P el) = some ys)
    (h : AppK el (sizeT P el) (bytesT P el) z.cells.toList σ a n c ys m fun a' n' c' σ' => K (.slice a' n' c') σ') :
    semA P (Builtin.append_ #[t1, t2] ty #[.slice a n c, .slice a2 m c2]) σ K := by
  obtain ⟨g0, g1, g2⟩ := h
  have hb : i.bytes = bytesT P el := by simp [bytesT, hi]
  unfold Builtin.append_
  simp only [List.getElem?_toArray, List.getElem?_cons_zero, List.getElem?_cons_succ]
  rw [semA_b, semA_und h1]
  simp only [semA_b, semA_size hi, semA_und h2, semA_p, Bool.false_eq_true, if_false, Builtin.lenOf]
  by_cases hle : n + m ≤ c
  · rw [if_pos hle]
    simp only [Bool.not_false, if_true, semA_b]
    refine semA_first hs ?_
    by_cases hm : m = 0
    · subst hm
      have : ys = [] := by simpa [srcCells] using hs.symm
      subst this
      obtain ⟨_, g0⟩ := g0 rfl
      cases a with
      | none => exact g0
      | some ad => exact g0
    · obtain ⟨b, off, k, rfl, hk, hl, hf, hy, h1', g1⟩ := g1 hm hle
      simp only [semA_b]
      rw [Addr.add_lit]
      by_cases hys : ys = []
      · subst hys
        simp only [spliceL] at g1
        have hsame : σ.set b ⟨k.ty, k.cells, (0, 0)⟩ = σ := by
          funext j
          unfold Store.set
          split
          · rename_i hj; subst hj; rw [hk, ← hf]
          · rfl
        rw [hsame] at g1
        exact g1
      · exact semA_storeAll (n := m * sizeT P el) ⟨hy, h1', k, hk, by have := Nat.add_mul n m (sizeT P el); omega, hf, g1⟩ hys
  · have hm : m ≠ 0 := by
      rintro rfl
      have := (g0 rfl).1
      omega
    obtain ⟨hbytes, h63, old, ho, g2⟩ := g2 hm (by omega)
    rw [if_neg hle]
    simp only [semA_b, semA_info hi]
    have hbig : ¬ (((n + m : Nat) : Int) > IntKind.i64.max ∧ (False ∨ i.bytes = 0)) := by
      have : IntKind.i64.max = 9223372036854775807 := by decide
      rw [this]
      omega
    rw [if_neg hbig]
    have hcap : ¬ Builtin.nextslicecap (n + m) c * i.bytes > 2 ^ 48 := by
      rcases nextslicecap_le (n + m) c with h | h
      · rw [hb]
        have := Nat.mul_le_mul_right (bytesT P el) h
        have e : (2 : Nat) ^ 48 = 281474976710656 := by decide
        omega
      · omega
    simp only [semA_b, semA_info hi]
    rw [if_neg hcap]
    simp only [semA_b, semA_info hi, semA_askRoom]
    intro t
    have hcut : n + m ≤ Question.cut (.appendCap (n + m) c el) t := by simp only [Question.cut]; omega
    refine semA_first ho ?_
    simp only [Bool.not_false, if_true, semA_zero hz]
    refine semA_first hs ?_
    intro b hb'
    have := g2 (Question.cut (.appendCap (n + m) c el) t) b hcut hb'
    simp only [Array.toList_append, zeroCells_list]
    exact this

theorem semA_asInt (k : IntKind) (l : Int) (σ : Store) (K : Int → Store → Prop) : semA P (asInt (.int k l)) σ K ↔ K l σ := Iff.rfl

theorem semA_appendN {t1 t2 ty el : TypeId} {k2 : IntKind} {i : TypeInfo} {z : Value} (h1 : P.underlying t1 = some (.slice el)) (h2 : P.underlying t2 = some (.int k2)) (hi : P.info? el = some i) (hz : zeroOf P el = some z)
    (hsz : z.cells.toList.length = sizeT P el) {σ : Store} {a : Option Addr} {n c : Nat} {kk : IntKind} {l : Int} {K : Value → Store → Prop}
    (h : AppN el (sizeT P el) (bytesT P el) z.cells.toList σ a n c l fun a' n' c' σ' => K (.slice a' n' c') σ') :
    semA P (Builtin.append_ #[t1, t2] ty #[.slice a n c, .int kk l]) σ K := by
  obtain ⟨q0, q1, q2, g0, g1, g2⟩ := h
  have hb : i.bytes = bytesT P el := by simp [bytesT, hi]
  have hw : IntKind.i64.wrap l = l := by rw [IntKind.wrap_i64]; omega
  unfold Builtin.append_
  simp only [List.getElem?_toArray, List.getElem?_cons_zero, List.getElem?_cons_succ]
  rw [semA_b, semA_und h1]
  simp only [semA_b, semA_size hi, semA_und h2, semA_p, if_true, semA_asInt, hw]
  rw [if_neg (by omega)]
  simp only [semA_b, semA_info hi]
  rw [if_neg (by rw [hb]; have e : (2 : Int) ^ 48 = 281474976710656 := by decide
                 omega)]
  simp only [semA_b, semA_p, Bool.not_true, Bool.false_eq_true, if_false]
  generalize l.toNat = m at *
  have hzc : Builtin.zeroCells z.cells m = (zeroN z.cells.toList m).toArray := by rw [← zeroCells_list]
  have happ : ∀ (σ : Store) (K : Array Value → Store → Prop), K (zeroN z.cells.toList m).toArray σ →
      semA P (if m * sizeT P el = 0 then pure #[] else do let z' ← zeroValue el; pure (Builtin.zeroCells z'.cells m)) σ K := by
    intro σ K hk
    split
    · rename_i h0
      have : zeroN z.cells.toList m = [] := by
        apply List.eq_nil_of_length_eq_zero
        unfold zeroN
        rw [List.length_flatten]
        simp only [List.map_replicate, List.sum_replicate_nat, hsz, h0]
      rw [this] at hk
      exact hk
    · simp only [semA_b, semA_zero hz, semA_p, hzc]; exact hk
  by_cases hle : n + m ≤ c
  · rw [if_pos hle]
    simp only [semA_b]
    refine happ _ _ ?_
    by_cases hm : m = 0
    · subst hm
      obtain ⟨_, g0⟩ := g0 rfl
      cases a with
      | none => exact g0
      | some ad => exact g0
    · obtain ⟨b, off, k, rfl, hk, hl, hf, hy, h1', g1⟩ := g1 hm hle
      simp only [semA_b]
      rw [Addr.add_lit]
      by_cases hys : zeroN z.cells.toList m = []
      · rw [hys] at g1 ⊢
        simp only [spliceL] at g1
        have hsame : σ.set b ⟨k.ty, k.cells, (0, 0)⟩ = σ := by
          funext j
          unfold Store.set
          split
          · rename_i hj; subst hj; rw [hk, ← hf]
          · rfl
        rw [hsame] at g1
        exact g1
      · exact semA_storeAll (n := m * sizeT P el) ⟨hy, h1', k, hk, by have := Nat.add_mul n m (sizeT P el); omega, hf, g1⟩ hys
  · have hm : m ≠ 0 := by
      rintro rfl
      have := (g0 rfl).1
      omega
    obtain ⟨hbytes, h63, old, ho, g2⟩ := g2 hm (by omega)
    rw [if_neg hle]
    simp only [semA_b, semA_info hi]
    have hbig : ¬ (((n + m : Nat) : Int) > IntKind.i64.max ∧ (True ∨ i.bytes = 0)) := by
      have : IntKind.i64.max = 9223372036854775807 := by decide
      rw [this]
      omega
    rw [if_neg hbig]
    have hcap : ¬ Builtin.nextslicecap (n + m) c * i.bytes > 2 ^ 48 := by
      rcases nextslicecap_le (n + m) c with h | h
      · rw [hb]
        have := Nat.mul_le_mul_right (bytesT P el) h
        have e : (2 : Nat) ^ 48 = 281474976710656 := by decide
        omega
      · omega
    simp only [semA_b, semA_info hi]
    rw [if_neg hcap]
    simp only [semA_b, semA_info hi, semA_askRoom]
    intro t
    have hcut : n + m ≤ Question.cut (.appendCap (n + m) c el) t := by simp only [Question.cut]; omega
    refine semA_first ho ?_
    simp only [semA_zero hz]
    refine happ _ _ ?_
    intro b hb'
    have := g2 (Question.cut (.appendCap (n + m) c el) t) b hcut hb'
    simp only [Array.toList_append, zeroCells_list]
    exact this

theorem map_range_zero (zs : Array Value) (n : Nat) : ((Array.range (n * zs.size)).map (zs[· % zs.size]!)).toList = zeroN zs.toList n := zeroCells_list zs n

theorem semA_make {t el : TypeId} {i : TypeInfo} {z : Value} (h1 : P.underlying t = some (.slice el)) (hi : P.info? el = some i) (hz : zeroOf P el = some z) (hsz : z.cells.size = sizeT P el)
    {σ : Store} {l c : Int} {kl kc : IntKind} {K : Value → Store → Prop}
    (h : MakeK el (bytesT P el) z.cells.toList σ l c fun b n m σ' => K (.slice (some ⟨b, 0, none⟩) n m) σ') : semA P (Instr.makeSlice t (.int kl l) (.int kc c)) σ K := by
  obtain ⟨h0, hlc, hc, hby, h⟩ := h
  have hb : i.bytes = bytesT P el := by simp [bytesT, hi]
  have w1 : IntKind.i64.wrap l = l := by
    have : (2 : Int) ^ 64 = 18446744073709551616 := by decide
    have h2 : (2 : Int) ^ 63 = 9223372036854775808 := by decide
    simp only [IntKind.wrap, IntKind.bits, this]
    rw [Int.emod_eq_of_lt h0 (by omega)]
    rw [if_neg]
    simp only [Bool.and_eq_true, decide_eq_true_eq, not_and]
    intro _
    show ¬ l ≥ 2 ^ 63
    omega
  have w2 : IntKind.i64.wrap c = c := by
    have : (2 : Int) ^ 64 = 18446744073709551616 := by decide
    have h2 : (2 : Int) ^ 63 = 9223372036854775808 := by decide
    simp only [IntKind.wrap, IntKind.bits, this]
    rw [Int.emod_eq_of_lt (by omega) (by omega)]
    rw [if_neg]
    simp only [Bool.and_eq_true, decide_eq_true_eq, not_and]
    intro _
    show ¬ c ≥ 2 ^ 63
    omega
  have e48 : (2 : Int) ^ 48 = 281474976710656 := by decide
  unfold Instr.makeSlice
  simp only [semA_b, semA_und h1, asInt, asIntOf, semA_p, semA_info hi, w1, w2, hb]
  have ht : ¬ ((decide (c < 0) || decide ((bytesT P el : Int) * c > 2 ^ 48)) = true ∨ l < 0 ∨ l > c) := by
    simp only [Bool.or_eq_true, decide_eq_true_eq]
    omega
  rw [if_neg (by simpa [or_assoc] using ht)]
  simp only [semA_b, semA_askRoom, semA_size hi]
  have hcells : ∀ (z0 : Array Value), (c.toNat * sizeT P el = 0 ∨ z0 = z.cells) → ((Array.range (c.toNat * sizeT P el)).map (z0[· % z0.size]!)).toList = zeroN z.cells.toList c.toNat := by
    intro z0 hz0
    rcases hz0 with hz0 | rfl
    · rw [hz0]
      have : zeroN z.cells.toList c.toNat = [] := by
        apply List.eq_nil_of_length_eq_zero
        unfold zeroN
        simp [List.length_flatten, List.map_replicate, hsz, hz0]
      simp [this]
    · rw [← hsz]; exact map_range_zero z.cells c.toNat
  by_cases hn : c.toNat * sizeT P el = 0
  · rw [if_pos hn]
    intro b hb'
    rw [hcells #[] (.inl hn)]
    exact h b hb'
  · rw [if_neg hn]
    simp only [semA_b, semA_zero hz, semA_p]
    intro b hb'
    rw [hcells z.cells (.inr rfl)]
    exact h b hb'

theorem semA_put {σ : Store} {ad : Addr} {n : Nat} {vs : List Value} {K : Store → Prop} (hl : vs.length = n) (h : PutK σ (some ad) n vs K) : semA P (storeCells ad vs) σ fun _ σ' => K σ' := by
  by_cases hn : n = 0
  · have := List.eq_nil_of_length_eq_zero (hl.trans hn)
    subst this
    exact h.1 hn
  · obtain ⟨b, off, he, hst⟩ := PtrNN_some (h.2 hn)
    cases he
    exact semA_storeAll hst (by rintro rfl; simp at hl; omega)

theorem semA_clear {t el : TypeId} {z : Value} (h1 : P.underlying t = some (.slice el)) (hz : zeroOf P el = some z) {ty : TypeId}
    {σ : Store} {a : Option Addr} {n c : Nat} {K : Value → Store → Prop} (h : PutK σ a (n * z.cells.size) (zeroN z.cells.toList n) fun σ' => K (.tuple #[]) σ') :
    semA P (Builtin.clear_ #[t] ty #[.slice a n c]) σ K := by
  have hlen : (zeroN z.cells.toList n).length = n * z.cells.size := by
    unfold zeroN; simp [List.length_flatten, List.map_replicate]
  unfold Builtin.clear_
  simp only [List.getElem?_toArray, List.getElem?_cons_zero]
  rw [semA_b, semA_und h1]
  cases a with
  | none =>
    have : n * z.cells.size = 0 := by
      by_cases hn : n * z.cells.size = 0
      · exact hn
      · exact (h.2 hn).elim
    exact h.1 this
  | some ad =>
    cases n with
    | zero => exact h.1 (by simp)
    | succ n =>
      simp only [semA_b, semA_zero hz, zeroCells_list]
      exact semA_put (K := fun σ' => K (.tuple #[]) σ') hlen h

theorem semA_copy {t1 t2 el : TypeId} {i : TypeInfo} (h1 : P.underlying t1 = some (.slice el)) (hi : P.info? el = some i) {ty : TypeId}
    {σ : Store} {a a2 : Option Addr} {n c n2 c2 : Nat} {K : Value → Store → Prop} (h : CopyK (sizeT P el) σ a n a2 n2 fun m σ' => K (.int .i64 (m : Int)) σ') :
    semA P (Builtin.copy_ #[t1, t2] ty #[.slice a n c, .slice a2 n2 c2]) σ K := by
  obtain ⟨ys, hs, hp⟩ := h
  have hlen : ys.length = min n2 n * sizeT P el := by
    unfold srcCells at hs
    split at hs
    · rename_i h0; cases hs; simp [h0]
    · split at hs
      · exact cellsAt_length hs
      · cases hs
  unfold Builtin.copy_
  simp only [List.getElem?_toArray, List.getElem?_cons_zero, List.getElem?_cons_succ]
  rw [semA_b, semA_und h1]
  simp only [semA_b, Builtin.lenOf, semA_p, semA_size hi]
  refine semA_first (n := min n2 n) hs ?_
  cases a with
  | none =>
    by_cases hn : min n2 n * sizeT P el = 0
    · exact hp.1 hn
    · exact (hp.2 hn).elim
  | some ad =>
    simp only [semA_b]
    exact semA_put (K := fun σ' => K (.int .i64 ((min n2 n : Nat) : Int)) σ') hlen hp

theorem semA_buildSlice {t : TypeId} {len : Nat} {parts : Array (Nat × Value)} {el : TypeId} {cs : List Value} (h : bsCells P t len parts.toList = some (el, cs)) {σ : Store} {K : Value → Store → Prop}
    (hk : ∀ b, σ b = none → K (.slice (some ⟨b, 0, none⟩) len len) (σ.set b ⟨el, cs, (0, 0)⟩)) : semA P (Instr.buildSlice t len parts) σ K := by
  unfold bsCells at h
  split at h
  · rename_i el' hu
    split at h
    · rename_i z hz
      split at h
      · rename_i cs' hle hf
        simp only [Option.some.injEq, Prod.mk.injEq] at h
        obtain ⟨rfl, rfl⟩ := h
        obtain ⟨i, hi⟩ := info_of_zero hz
        have hle := Nat.le_of_ble_eq_true hle
        unfold Instr.buildSlice
        simp only [semA_b, semA_und hu, semA_size hi]
        have e24 : (2 : Nat) ^ 24 = 16777216 := by decide
        rw [if_neg (by omega)]
        by_cases hn : len * sizeT P el' = 0
        · rw [if_pos hn]
          have hr : ∀ z0 : Array Value, (Array.range (len * sizeT P el')).map (z0[· % z0.size]!) = #[] := fun z0 => by rw [hn]; simp
          rw [hr] at hf
          simp only [semA_b, semA_p, hr, hf]
          exact hk
        · rw [if_neg hn]
          simp only [semA_b, semA_zero hz, semA_p, hf]
          exact hk
      · cases h
    · cases h
  · cases h

end
end Go.Ev
