/-
  A region whose order is drawn: one order serves for all. What looks at memory may be taken first where all that could come ahead of it leaves the blocks that stood as they stood.
-/
import Derived.Test.YtfijmoofdafoiaaAmD
set_option linter.unusedSimpArgs false
set_option linter.unusedVariables false
namespace Go.Proofs.Ytfijmoofdafoiaa
open Go
namespace Am

section
variable {P : Program} {ops : Array Oper} {Q : Exit → Act → World → Prop}

/-- Whatever order is picked from here on; `S` holds behind each operation of `nS`; behind the others another condition may be chosen. -/
def wpAnyN (P : Program) (ops : Array Oper) (Q : Exit → Act → World → Prop) (nS : Nat → Bool) : Nat → (World → Prop) → Array Bool → Act → World → Prop
  | 0, _, listed, a, w => Region.ready .any ops listed = [] ∧ Q .normal a w
  | fuel + 1, S, listed, a, w =>
    (Region.ready .any ops listed = [] → Q .normal a w) ∧
    ∀ i ∈ Region.ready .any ops listed, wpOp P ops Q i (fun a' w' => if nS i then S w' ∧ wpAnyN P ops Q nS fuel S (listed.setIfInBounds i true) a' w' else ∃ S', S' w' ∧ wpAnyN P ops Q nS fuel S' (listed.setIfInBounds i true) a' w') a w

theorem wpAny_of_N {nS : Nat → Bool} : ∀ (fuel : Nat) (S : World → Prop) (listed : Array Bool) (a : Act) (w : World), wpAnyN P ops Q nS fuel S listed a w → wpAny P .any ops Q fuel listed a w
  | 0, _, _, _, _, h => h
  | fuel + 1, S, _, _, _, h => ⟨h.1, fun i hi => wpOp_mono (fun a' w' h' => by
      split at h'
      · exact wpAny_of_N fuel S _ a' w' h'.2
      · obtain ⟨S', _, h'⟩ := h'; exact wpAny_of_N fuel S' _ a' w' h') (h.2 i hi)⟩

/-- The operations that can come while operation i has not are among `S`. -/
structure Closed (ops : Array Oper) (i : Nat) (S : Nat) : Prop where
  self : S.testBit i = false
  step : ∀ j oj, ops[j]? = some oj → j ≠ i → (∀ e ∈ oj.after, Region.binds .any e = true → S.testBit e.on = true) → S.testBit j = true

theorem Closed.ready {i S j : Nat} (hc : Closed ops i S) {listed : Array Bool} (hl : ∀ k, listed.getD k false = true → S.testBit k = true) (hj : j ∈ Region.ready .any ops listed) (hne : j ≠ i) : S.testBit j = true ∧
    (∀ k, (listed.setIfInBounds j true).getD k false = true → S.testBit k = true) := by
  obtain ⟨hun, oj, hoj, hall⟩ := mem_ready.1 hj
  have hS : S.testBit j = true := hc.step j oj hoj hne fun e he hb => hl _ (hall e he hb)
  refine ⟨hS, fun k hk => ?_⟩
  by_cases hjk : j = k
  · subst hjk; exact hS
  · rw [getD_set_ne false hjk] at hk; exact hl k hk

theorem wpAnyN_pure {nS : Nat → Bool} {i : Nat} {oi : Oper} {v : Value} {M : Nat} (hi : ops[i]? = some oi) (hsel : ∀ (j : Nat) (o : Oper) cs b, ops[j]? = some o → o.op ≠ .select cs b)
    (hQ : ∀ c a w, Q (.panic c) (a.put oi.dst v) w → Q (.panic c) a w) (hc : Closed ops i M) (hni : nS i = true) :
    ∀ (fuel : Nat) (S : World → Prop) (listed : Array Bool) (a : Act) (w : World), (∀ k, listed.getD k false = true → M.testBit k = true) →
      (∀ j oj, ops[j]? = some oj → M.testBit j = true → listed.getD j true = false → oi.apart ops oj = true) →
      i ∈ Region.ready .any ops listed → Yields P ops oi v a → S w →
      wpAnyN P ops Q nS fuel S (listed.setIfInBounds i true) (a.put oi.dst v) w → wpAnyN P ops Q nS (fuel + 1) S listed a w := by
  intro fuel
  induction fuel with
  | zero =>
    intro S listed a w hl hfree hr hy hS H
    refine ⟨fun h => (by rw [h] at hr; cases hr), fun j hj => ?_⟩
    by_cases hji : j = i
    · subst hji
      refine hy.wpOp hi ?_
      rw [if_pos hni]
      exact ⟨hS, H⟩
    · have := ready_mono hj hji
      rw [H.1] at this
      cases this
  | succ fuel ih =>
    intro S listed a w hl hfree hr hy hS H
    refine ⟨fun h => (by rw [h] at hr; cases hr), fun j hj => ?_⟩
    by_cases hji : j = i
    · subst hji
      refine hy.wpOp hi ?_
      rw [if_pos hni]
      exact ⟨hS, H⟩
    · have h1 := H.2 j (ready_mono hj hji)
      obtain ⟨hjun, oj, hoj, hall⟩ := mem_ready.1 hj
      obtain ⟨hMj, hl'⟩ := hc.ready hl hj hji
      have h2 := wpOp_put hoj (hfree j oj hoj hMj hjun) (fun cs b => hsel i oi cs b hi) (fun cs b => hsel j oj cs b hoj) hQ hy h1
      have hfree' : ∀ k ok, ops[k]? = some ok → M.testBit k = true → (listed.setIfInBounds j true).getD k true = false → oi.apart ops ok = true := fun k ok hk hMk hun => by
        refine hfree k ok hk hMk ?_
        by_cases hjk : j = k
        · subst hjk; exact hjun
        · rw [getD_set_ne true hjk] at hun; exact hun
      refine wpOp_mono (fun a' w' h3 => ?_) h2
      obtain ⟨hy', h3⟩ := h3
      by_cases hnj : nS j = true
      · rw [if_pos hnj] at h3 ⊢
        refine ⟨h3.1, ih S _ a' w' hl' hfree' (ready_mono hr (Ne.symm hji)) hy' h3.1 ?_⟩
        rw [Array.setIfInBounds_comm _ _ hji]
        exact h3.2
      · rw [if_neg hnj] at h3 ⊢
        obtain ⟨S', hS', h3⟩ := h3
        refine ⟨S', hS', ih S' _ a' w' hl' hfree' (ready_mono hr (Ne.symm hji)) hy' hS' ?_⟩
        rw [Array.setIfInBounds_comm _ _ hji]
        exact h3


theorem wpAnyN_read {nS : Nat → Bool} {i : Nat} {oi : Oper} {v : Value} {M : Nat} {S : World → Prop} (hi : ops[i]? = some oi) (hsel : ∀ (j : Nat) (o : Oper) cs b, ops[j]? = some o → o.op ≠ .select cs b)
    (hQ : ∀ c a w, Q (.panic c) (a.put oi.dst v) w → Q (.panic c) a w) (hc : Closed ops i M) (hni : nS i = true) :
    ∀ (fuel : Nat) (listed : Array Bool) (a : Act) (w : World), (∀ k, listed.getD k false = true → M.testBit k = true) →
      (∀ j oj, ops[j]? = some oj → M.testBit j = true → listed.getD j true = false → oi.apart ops oj = true ∧ nS j = true) →
      i ∈ Region.ready .any ops listed → YieldsIf P ops S oi v a → S w →
      wpAnyN P ops Q nS fuel S (listed.setIfInBounds i true) (a.put oi.dst v) w → wpAnyN P ops Q nS (fuel + 1) S listed a w := by
  intro fuel
  induction fuel with
  | zero =>
    intro listed a w hl hfree hr hy hS H
    refine ⟨fun h => (by rw [h] at hr; cases hr), fun j hj => ?_⟩
    by_cases hji : j = i
    · subst hji
      refine hy.wpOp hi hS ?_
      rw [if_pos hni]
      exact ⟨hS, H⟩
    · have := ready_mono hj hji
      rw [H.1] at this
      cases this
  | succ fuel ih =>
    intro listed a w hl hfree hr hy hS H
    refine ⟨fun h => (by rw [h] at hr; cases hr), fun j hj => ?_⟩
    by_cases hji : j = i
    · subst hji
      refine hy.wpOp hi hS ?_
      rw [if_pos hni]
      exact ⟨hS, H⟩
    · have h1 := H.2 j (ready_mono hj hji)
      obtain ⟨hjun, oj, hoj, hall⟩ := mem_ready.1 hj
      obtain ⟨hMj, hl'⟩ := hc.ready hl hj hji
      obtain ⟨hap, hnj⟩ := hfree j oj hoj hMj hjun
      have h2 := wpOp_putIf hoj hap (fun cs b => hsel i oi cs b hi) (fun cs b => hsel j oj cs b hoj) hQ hy h1
      have hfree' : ∀ k ok, ops[k]? = some ok → M.testBit k = true → (listed.setIfInBounds j true).getD k true = false → oi.apart ops ok = true ∧ nS k = true := fun k ok hk hMk hun => by
        refine hfree k ok hk hMk ?_
        by_cases hjk : j = k
        · subst hjk; exact hjun
        · rw [getD_set_ne true hjk] at hun; exact hun
      refine wpOp_mono (fun a' w' h3 => ?_) h2
      obtain ⟨hy', h3⟩ := h3
      rw [if_pos hnj] at h3 ⊢
      refine ⟨h3.1, ih _ a' w' hl' hfree' (ready_mono hr (Ne.symm hji)) hy' h3.1 ?_⟩
      rw [Array.setIfInBounds_comm _ _ hji]
      exact h3.2

theorem wpAnyN_only {nS : Nat → Bool} {i : Nat} {fuel : Nat} {S : World → Prop} {listed : Array Bool} {a : Act} {w : World} (hr : i ∈ Region.ready .any ops listed) (ho : ∀ j ∈ Region.ready .any ops listed, j = i)
    (h : wpOp P ops Q i (fun a' w' => if nS i then S w' ∧ wpAnyN P ops Q nS fuel S (listed.setIfInBounds i true) a' w' else ∃ S', S' w' ∧ wpAnyN P ops Q nS fuel S' (listed.setIfInBounds i true) a' w') a w) :
    wpAnyN P ops Q nS (fuel + 1) S listed a w :=
  ⟨fun h0 => (by rw [h0] at hr; cases hr), fun j hj => by rw [ho j hj]; exact h⟩

theorem wpAnyN_done {nS : Nat → Bool} {S : World → Prop} {listed : Array Bool} {a : Act} {w : World} (hr : Region.ready .any ops listed = []) (h : Q .normal a w) : ∀ fuel, wpAnyN P ops Q nS fuel S listed a w
  | 0 => ⟨hr, h⟩
  | _ + 1 => ⟨fun _ => h, by rw [hr]; simp⟩

/-! ### Masks -/

theorem pm_iff (o : Oper) (k : Nat) : (pm o).testBit k = true ↔ ∃ e ∈ o.after, Region.binds .any e = true ∧ e.on = k := by
  have gen : ∀ (l : List Edge) (s : Nat), (l.foldl (fun s ed => bif Region.binds .any ed then Nat.lor s (2 ^ ed.on) else s) s).testBit k = true ↔ s.testBit k = true ∨ ∃ e ∈ l, Region.binds .any e = true ∧ e.on = k := by
    intro l
    induction l with
    | nil => intro s; simp
    | cons x l ih =>
      intro s
      rw [List.foldl_cons, ih]
      cases hb : Region.binds .any x
      · simp [hb]
      · have : (Nat.lor s (2 ^ x.on)).testBit k = (s.testBit k || decide (x.on = k)) := by
          show (s ||| 2 ^ x.on).testBit k = _
          rw [Nat.testBit_or, Nat.testBit_two_pow]
        simp only [cond_true, this, Bool.or_eq_true, decide_eq_true_eq, List.mem_cons, exists_eq_or_imp, hb, true_and]
        constructor
        · rintro ((h | h) | h)
          · exact .inl h
          · exact .inr (.inl h)
          · exact .inr (.inr h)
        · rintro (h | h | h)
          · exact .inl (.inl h)
          · exact .inl (.inr h)
          · exact .inr h
  unfold pm
  rw [gen]
  simp

theorem subM_iff {a b : Nat} : subM a b = true ↔ ∀ k, a.testBit k = true → b.testBit k = true := by
  unfold subM
  constructor
  · intro h k hk
    have h := Nat.eq_of_beq_eq_true h
    have : (a &&& b).testBit k = a.testBit k := by
      show (Nat.land a b).testBit k = _
      rw [h]
    rw [Nat.testBit_and, hk] at this
    simpa using this
  · intro h
    have : Nat.land a b = a := by
      apply Nat.eq_of_testBit_eq
      intro k
      show (a &&& b).testBit k = _
      rw [Nat.testBit_and]
      cases hk : a.testBit k
      · rfl
      · rw [h k hk]; rfl
    rw [this]
    simp

theorem lor_testBit (L i k : Nat) : (Nat.lor L (2 ^ i)).testBit k = (L.testBit k || decide (i = k)) := by
  show (L ||| 2 ^ i).testBit k = _
  rw [Nat.testBit_or, Nat.testBit_two_pow]

theorem sub_pm {o : Oper} {S : Nat} : subM (pm o) S = true ↔ ∀ e ∈ o.after, Region.binds .any e = true → S.testBit e.on = true := by
  rw [subM_iff]
  constructor
  · intro h e he hb; exact h _ ((pm_iff o e.on).2 ⟨e, he, hb, rfl⟩)
  · intro h k hk
    obtain ⟨e, he, hb, rfl⟩ := (pm_iff o k).1 hk
    exact h e he hb

theorem closedM_iff {i L S : Nat} : ∀ (l : List Oper) (k : Nat), closedM l k i L S = true → ∀ j o, l[j]? = some o →
    (L.testBit (k + j) = true → S.testBit (k + j) = true) ∧ (k + j ≠ i → subM (pm o) S = true → S.testBit (k + j) = true)
  | [], _, _, j, o, h => by simp at h
  | x :: r, k, h, j, o, hj => by
    simp only [closedM, Bool.and_eq_true, Bool.or_eq_true, Bool.not_eq_true'] at h
    obtain ⟨⟨h1, h2⟩, h3⟩ := h
    cases j with
    | zero =>
      simp only [List.getElem?_cons_zero, Option.some.injEq] at hj
      subst hj
      refine ⟨fun hL => ?_, fun hne hs => ?_⟩
      · rcases h1 with h1 | h1
        · rw [Nat.add_zero, h1] at hL; cases hL
        · exact h1
      · rcases h2 with (h2 | h2) | h2
        · exact absurd (Nat.eq_of_beq_eq_true h2) hne
        · rw [h2] at hs; cases hs
        · exact h2
    | succ j =>
      have := closedM_iff r (k + 1) h3 j o (by simpa using hj)
      rw [show k + (j + 1) = k + 1 + j by omega]
      exact this

theorem freeM_iff {C : Ctx} {nS : List Nat} {oi : Oper} {rd : Bool} {L S : Nat} : ∀ (l : List Oper) (k : Nat), freeM C ops nS oi rd l k L S = true → ∀ j o, l[j]? = some o →
    S.testBit (k + j) = true → L.testBit (k + j) = false → oi.apart ops o = true ∧ (rd = true → nSof C ops nS (k + j) = true)
  | [], _, _, j, o, h => by simp at h
  | x :: r, k, h, j, o, hj => by
    simp only [freeM, Bool.and_eq_true, Bool.or_eq_true, Bool.not_eq_true'] at h
    obtain ⟨h1, h2⟩ := h
    cases j with
    | zero =>
      simp only [List.getElem?_cons_zero, Option.some.injEq] at hj
      subst hj
      intro hS hL
      rw [Nat.add_zero] at *
      rcases h1 with (h1 | h1) | ⟨h1, h3⟩
      · rw [h1] at hS; cases hS
      · rw [h1] at hL; cases hL
      · refine ⟨h1, fun hrd => ?_⟩
        rcases h3 with h3 | h3
        · rw [h3] at hrd; cases hrd
        · exact h3
    | succ j =>
      have := freeM_iff r (k + 1) h2 j o (by simpa using hj)
      rw [show k + (j + 1) = k + 1 + j by omega]
      exact this

theorem onlyM_iff {i L : Nat} : ∀ (l : List Oper) (k : Nat), onlyM l k i L = true → ∀ j o, l[j]? = some o → k + j = i ∨ L.testBit (k + j) = true ∨ subM (pm o) L = false
  | [], _, _, j, o, h => by simp at h
  | x :: r, k, h, j, o, hj => by
    simp only [onlyM, Bool.and_eq_true, Bool.or_eq_true, Bool.not_eq_true'] at h
    obtain ⟨h1, h2⟩ := h
    cases j with
    | zero =>
      simp only [List.getElem?_cons_zero, Option.some.injEq] at hj
      subst hj
      rcases h1 with (h1 | h1) | h1
      · exact .inl (Nat.eq_of_beq_eq_true h1)
      · exact .inr (.inl h1)
      · exact .inr (.inr h1)
    | succ j =>
      have := onlyM_iff r (k + 1) h2 j o (by simpa using hj)
      rw [show k + (j + 1) = k + 1 + j by omega]
      exact this

theorem allM_iff {L : Nat} : ∀ (l : List Oper) (k : Nat), allM l k L = true → ∀ j o, l[j]? = some o → L.testBit (k + j) = true
  | [], _, _, j, o, h => by simp at h
  | x :: r, k, h, j, o, hj => by
    simp only [allM, Bool.and_eq_true] at h
    cases j with
    | zero => exact h.1
    | succ j =>
      have := allM_iff r (k + 1) h.2 j o (by simpa using hj)
      rw [show k + (j + 1) = k + 1 + j by omega]
      exact this

theorem ready_empty {L : Nat} {listed : Array Bool} (hs : listed.size = ops.size) (hl : ∀ k, listed.getD k false = L.testBit k) (h : allM ops.toList 0 L = true) : Region.ready .any ops listed = [] := by
  apply List.eq_nil_iff_forall_not_mem.2
  intro j hj
  obtain ⟨h0, o, ho, _⟩ := mem_ready.1 hj
  have h1 := allM_iff ops.toList 0 h j o (by simpa using ho)
  rw [Nat.zero_add, ← hl j] at h1
  have hlt : j < listed.size := by rw [hs]; exact (Array.getElem?_eq_some_iff.1 ho).1
  simp [hlt] at h0 h1
  rw [h0] at h1; cases h1

/-- **A region whose order is drawn.** -/
theorem cdraw_sound {C : Ctx} (hG : C.Good) {n : Nat} {nS : List Nat} {N : Env → Hp → Prop} {Q : Exit → Act → World → Prop} {ws : List Nat} {a0 : Act} {w0 : World}
    (hns : Region.noSelect ops = true) (hpan : ∀ c a w, ¬ Q (.panic c) a w)
    (hd : ∀ o ∈ ops.toList, ∀ d, o.dst = some d → d < n ∧ memN ws d = true) (hQ : ∀ e a w, Inv n ws a0 w0 e a w → N e w.heap → Q .normal a w) :
    ∀ (ord : List Nat) (L : Nat) (listed : Array Bool) (fuel : Nat) (hs : Hp) (e : Env) (a : Act) (w : World), ord.length ≤ fuel → listed.size = ops.size → (∀ k, listed.getD k false = L.testBit k) →
      ordOk C ops nS ord L = true → Inv n ws a0 w0 e a w → Keep hs w.heap → cdraw C ops nS ord hs e w.heap N →
      wpAnyN C.P ops Q (nSof C ops nS) fuel (fun w' => Keep hs w'.heap) listed a w
  | [], L, listed, fuel, hs, e, a, w, _, hsz, hl, hok, hi, hk, h => wpAnyN_done (ready_empty hsz hl hok) (hQ e a w hi h) fuel
  | i :: r, L, listed, 0, hs, e, a, w, hf, _, _, _, _, _, _ => by simp at hf
  | i :: r, L, listed, fuel + 1, hs, e, a, w, hf, hsz, hl, hok, hi, hk, h => by
    simp only [ordOk, Bool.and_eq_true] at hok
    obtain ⟨hok, hrest⟩ := hok
    simp only [cdraw] at h
    obtain ⟨o, ho, h⟩ := onO_iff h
    simp only [ho, Bool.and_eq_true, Bool.not_eq_true'] at hok
    obtain ⟨⟨hLi, hsub⟩, hok⟩ := hok
    have hlt : i < listed.size := by rw [hsz]; exact (Array.getElem?_eq_some_iff.1 ho).1
    have hm : o ∈ ops.toList := by
      have := Array.mem_of_getElem? ho
      simpa using this
    have hr : i ∈ Region.ready .any ops listed := by
      refine mem_ready.2 ⟨?_, o, ho, fun ed hed hb => ?_⟩
      · have := hl i
        rw [hLi] at this
        simp [hlt] at this ⊢
        exact this
      · rw [hl]; exact sub_pm.1 hsub ed hed hb
    have hl' : ∀ k, (listed.setIfInBounds i true).getD k false = (Nat.lor L (2 ^ i)).testBit k := fun k => by
      rw [lor_testBit]
      by_cases hik : i = k
      · subst hik; simp [hlt]
      · rw [getD_set_ne false hik, hl]; simp [hik]
    have hsz' : (listed.setIfInBounds i true).size = ops.size := by simp [hsz]
    have hgo := fun hs e a w hi hk h => cdraw_sound hG hns hpan hd hQ r (Nat.lor L (2 ^ i)) (listed.setIfInBounds i true) fuel hs e a w (by simpa using hf) hsz' hl' hrest hi hk h
    have hdo : ∀ d, o.dst = some d → d < n ∧ memN ws d = true := hd o hm
    cases hso : sortOf C o with
    | act =>
      rw [hso] at h hok
      simp only at h hok
      have honly : ∀ j ∈ Region.ready .any ops listed, j = i := by
        intro j hj
        obtain ⟨h0, oj, hoj, hall⟩ := mem_ready.1 hj
        rcases onlyM_iff ops.toList 0 hok j oj (by simpa using hoj) with h1 | h1 | h1
        · simpa using h1
        · rw [Nat.zero_add, ← hl j] at h1
          have : j < listed.size := by rw [hsz]; exact (Array.getElem?_eq_some_iff.1 hoj).1
          simp [this] at h0 h1
          rw [h0] at h1; cases h1
        · have : subM (pm oj) L = true := sub_pm.2 fun ed hed hb => by rw [← hl]; exact hall ed hed hb
          rw [this] at h1; cases h1
      have hnS : nSof C ops nS i = nS.contains i := by simp [nSof, ho, hso]
      refine wpAnyN_only hr honly ?_
      unfold wpOp
      rw [ho]
      simp only
      rcases gd_iff hi.know h with ⟨hw, e', hk', h⟩ | ⟨hw, e', hk', h⟩
      · rw [if_pos hw]
        refine .inl (Oper.wp_mono ?_ (aop_sound hG (Q := Q) hk' rfl h))
        rintro a' w' ⟨v, rfl, hst, hK⟩
        rw [hnS]
        by_cases hc : nS.contains i = true
        · rw [if_pos hc] at hK ⊢
          exact ⟨hK.1, hgo _ _ _ _ (Inv.put ⟨hk', hi.size, hi.defers, hi.stay, hi.kept⟩ hst hdo) hK.1 hK.2⟩
        · rw [if_neg hc] at hK ⊢
          exact ⟨fun w'' => Keep w'.heap w''.heap, Keep.refl _, hgo _ _ _ _ (Inv.put ⟨hk', hi.size, hi.defers, hi.stay, hi.kept⟩ hst hdo) (Keep.refl _) hK⟩
      · rw [if_neg (by simp [hw])]
        rw [hnS]
        by_cases hc : nS.contains i = true
        · rw [if_pos hc] at h ⊢
          exact ⟨hk, hgo _ _ _ _ (Inv.put ⟨hk', hi.size, hi.defers, hi.stay, hi.kept⟩ (Stay.refl w) hdo) hk h⟩
        · rw [if_neg hc] at h ⊢
          exact ⟨fun w'' => Keep w.heap w''.heap, Keep.refl _, hgo _ _ _ _ (Inv.put ⟨hk', hi.size, hi.defers, hi.stay, hi.kept⟩ (Stay.refl w) hdo) (Keep.refl _) h⟩
    | pure =>
      rw [hso] at h hok
      simp only [Bool.and_eq_true, Bool.not_eq_true'] at h hok
      obtain ⟨⟨hSi, hcl⟩, hfr⟩ := hok
      generalize closM ops.toList 0 i L 0 = M at hSi hcl hfr
      have hc : Closed ops i M := ⟨hSi, fun j oj hoj hne hall => by
        have := (closedM_iff ops.toList 0 hcl j oj (by simpa using hoj)).2 (by simpa using hne) (sub_pm.2 hall)
        simpa using this⟩
      have hlM : ∀ k, listed.getD k false = true → M.testBit k = true := fun k hk => by
        have hkl : k < listed.size := by
          rcases Nat.lt_or_ge k listed.size with h' | h'
          · exact h'
          · simp [Array.getElem?_eq_none h'] at hk
        obtain ⟨ok, hko⟩ : ∃ ok, ops[k]? = some ok := ⟨_, Array.getElem?_eq_getElem (by rw [← hsz]; exact hkl)⟩
        have := (closedM_iff ops.toList 0 hcl k ok (by simpa using hko)).1 (by rw [Nat.zero_add, ← hl]; exact hk)
        simpa using this
      have hnSi : nSof C ops nS i = true := by simp [nSof, ho, hso]
      have hfree : ∀ j oj, ops[j]? = some oj → M.testBit j = true → listed.getD j true = false → o.apart ops oj = true := fun j oj hoj hMj hun => by
        refine (freeM_iff ops.toList 0 hfr j oj (by simpa using hoj) (by simpa using hMj) ?_).1
        rw [Nat.zero_add, ← hl]
        have : j < listed.size := by rw [hsz]; exact (Array.getElem?_eq_some_iff.1 hoj).1
        simp [this] at hun ⊢
        exact hun
      rcases gd_iff hi.know h with ⟨hw, e', hk', h⟩ | ⟨hw, e', hk', h⟩
      · obtain ⟨v, hK, hy⟩ := qop_sound hk' h
        refine wpAnyN_pure ho (Region.noSelect_spec hns) (fun c a w hp => (hpan _ _ _ hp).elim) hc hnSi fuel _ listed a w hlM hfree hr (.inl ⟨hw, fun w' => hy w' (.inl hso)⟩) hk ?_
        exact hgo _ _ _ _ (Inv.put ⟨hk', hi.size, hi.defers, hi.stay, hi.kept⟩ (Stay.refl w) hdo) hk hK
      · refine wpAnyN_pure (v := undef) ho (Region.noSelect_spec hns) (fun c a w hp => (hpan _ _ _ hp).elim) hc hnSi fuel _ listed a w hlM hfree hr (.inr ⟨hw, rfl⟩) hk ?_
        exact hgo _ _ _ _ (Inv.put ⟨hk', hi.size, hi.defers, hi.stay, hi.kept⟩ (Stay.refl w) hdo) hk h
    | read =>
      rw [hso] at h hok
      simp only [Bool.and_eq_true, Bool.not_eq_true'] at h hok
      obtain ⟨⟨hSi, hcl⟩, hfr⟩ := hok
      generalize closM ops.toList 0 i L 0 = M at hSi hcl hfr
      have hc : Closed ops i M := ⟨hSi, fun j oj hoj hne hall => by
        have := (closedM_iff ops.toList 0 hcl j oj (by simpa using hoj)).2 (by simpa using hne) (sub_pm.2 hall)
        simpa using this⟩
      have hlM : ∀ k, listed.getD k false = true → M.testBit k = true := fun k hk => by
        have hkl : k < listed.size := by
          rcases Nat.lt_or_ge k listed.size with h' | h'
          · exact h'
          · simp [Array.getElem?_eq_none h'] at hk
        obtain ⟨ok, hko⟩ : ∃ ok, ops[k]? = some ok := ⟨_, Array.getElem?_eq_getElem (by rw [← hsz]; exact hkl)⟩
        have := (closedM_iff ops.toList 0 hcl k ok (by simpa using hko)).1 (by rw [Nat.zero_add, ← hl]; exact hk)
        simpa using this
      have hnSi : nSof C ops nS i = true := by simp [nSof, ho, hso]
      have hfree : ∀ j oj, ops[j]? = some oj → M.testBit j = true → listed.getD j true = false → o.apart ops oj = true ∧ nSof C ops nS j = true := fun j oj hoj hMj hun => by
        have := freeM_iff ops.toList 0 hfr j oj (by simpa using hoj) (by simpa using hMj) (by
          rw [Nat.zero_add, ← hl]
          have : j < listed.size := by rw [hsz]; exact (Array.getElem?_eq_some_iff.1 hoj).1
          simp [this] at hun ⊢
          exact hun)
        exact ⟨this.1, by simpa using this.2 rfl⟩
      rcases gd_iff hi.know h with ⟨hw, e', hk', h⟩ | ⟨hw, e', hk', h⟩
      · obtain ⟨v, hK, hy⟩ := qop_sound hk' h
        refine wpAnyN_read ho (Region.noSelect_spec hns) (fun c a w hp => (hpan _ _ _ hp).elim) hc hnSi fuel listed a w hlM hfree hr (.inl ⟨hw, fun w' hw' => hy w' (.inr hw')⟩) hk ?_
        exact hgo _ _ _ _ (Inv.put ⟨hk', hi.size, hi.defers, hi.stay, hi.kept⟩ (Stay.refl w) hdo) hk hK
      · refine wpAnyN_read (v := undef) ho (Region.noSelect_spec hns) (fun c a w hp => (hpan _ _ _ hp).elim) hc hnSi fuel listed a w hlM hfree hr (.inr ⟨hw, rfl⟩) hk ?_
        exact hgo _ _ _ _ (Inv.put ⟨hk', hi.size, hi.defers, hi.stay, hi.kept⟩ (Stay.refl w) hdo) hk h

end
end Am
end Go.Proofs.Ytfijmoofdafoiaa
