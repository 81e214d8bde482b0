/-
  What the small form says of a piece of code, and of a whole function, holds of the model's run of it.
-/
import Derived.Test.YtfijmoofdafoiaaAmE
set_option linter.unusedSimpArgs false
set_option linter.unusedVariables false
namespace Go.Proofs.Ytfijmoofdafoiaa
open Go
namespace Am

theorem Inv.trans {n : Nat} {ws ws' : List Nat} {a0 a1 : Act} {w0 w1 : World} {e1 e : Env} {a : Act} {w : World} (h : Inv n ws a0 w0 e1 a1 w1) (k : Inv n ws' a1 w1 e a w) : Inv n (ws ++ ws') a0 w0 e a w where
  know := k.know
  size := k.size
  defers := k.defers
  stay := h.stay.trans k.stay
  kept := fun t ht => by
    rw [memN_append, Bool.or_eq_false_iff] at ht
    rw [k.kept t ht.2, h.kept t ht.1]

theorem Inv.widen {n : Nat} {ws ws' : List Nat} {a0 : Act} {w0 : World} {e : Env} {a : Act} {w : World} (h : Inv n ws a0 w0 e a w) (hw : ∀ t, memN ws' t = false → memN ws t = false) : Inv n ws' a0 w0 e a w where
  know := h.know
  size := h.size
  defers := h.defers
  stay := h.stay
  kept := fun t ht => h.kept t (hw t ht)

theorem left_wide {a b : List Nat} (t : Nat) (h : memN (a ++ b) t = false) : memN a t = false := by
  rw [memN_append, Bool.or_eq_false_iff] at h; exact h.1
theorem right_wide {a b : List Nat} (t : Nat) (h : memN (a ++ b) t = false) : memN b t = false := by
  rw [memN_append, Bool.or_eq_false_iff] at h; exact h.2

def Post (n : Nat) (ws : List Nat) (a0 : Act) (w0 : World) (N : Env → Hp → Prop) (E : Nat → Env → Hp → Prop) (R : Env → Hp → Prop) : Exit → Act → World → Prop
  | .normal, a, w => ∃ e, Inv n ws a0 w0 e a w ∧ N e w.heap
  | .exit i, a, w => ∃ e, Inv n ws a0 w0 e a w ∧ E i e w.heap
  | .ret, a, w => ∃ e, Inv n ws a0 w0 e a w ∧ R e w.heap
  | _, _, _ => False

/-! ### Slots -/

theorem get_append (l r : Env) (t : Nat) : Env.get (l ++ r) t = (match Env.get l t with | some v => some v | none => Env.get r t) := by
  induction l with
  | nil => rfl
  | cons x l ih =>
    simp only [List.cons_append, Env.get]
    cases Nat.beq x.1 t <;> simp [ih]

theorem get_keepE {ws : List Nat} {e : Env} {t : Nat} {v : Value} (h : Env.get (keepE ws e) t = some v) : memN ws t = false ∧ Env.get e t = some v := by
  induction e with
  | nil => simp [keepE, Env.get] at h
  | cons x e ih =>
    simp only [keepE] at h
    cases hm : memN ws x.1
    · rw [hm] at h
      simp only [cond_false, Env.get] at h ⊢
      cases hb : Nat.beq x.1 t
      · rw [hb] at h
        simp only [cond_false] at h ⊢
        exact ih h
      · rw [hb] at h
        simp only [cond_true] at h ⊢
        refine ⟨?_, h⟩
        rw [← Nat.eq_of_beq_eq_true hb]; exact hm
    · rw [hm] at h
      simp only [cond_true] at h
      obtain ⟨h1, h2⟩ := ih h
      refine ⟨h1, ?_⟩
      simp only [Env.get]
      have : x.1 ≠ t := fun e => by rw [e] at hm; rw [hm] at h1; cases h1
      rw [beq_no this]
      exact h2

theorem Ty.on_iff : ∀ {t : Ty} {v : Value} {K : t.T → Prop}, t.on v K → ∃ y, t.val y = v ∧ K y
  | .ti k, v, K, h => by obtain ⟨n, rfl, h'⟩ := onI_iff h; exact ⟨n, rfl, h'⟩
  | .tb, v, K, h => by obtain ⟨n, rfl, h'⟩ := onB_iff h; exact ⟨n, rfl, h'⟩
  | .tp, v, K, h => by obtain ⟨n, rfl, h'⟩ := onP_iff h; exact ⟨n, rfl, h'⟩
  | .ts, v, K, h => by obtain ⟨a, l, c, rfl, h'⟩ := onSl_iff h; exact ⟨(a, l, c), rfl, h'⟩
  | .tv, v, K, h => ⟨v, rfl, h⟩

theorem Tup.of_iff {a : Act} {e : Env} (hk : Know e a) : ∀ {ts : Slots} {K : Tup ts → Prop}, Tup.of ts e K → ∃ st, Know (Tup.env ts st) a ∧ K st
  | [], K, h => ⟨(), fun t v h => by simp [Tup.env, Env.get] at h, h⟩
  | x :: r, K, h => by
    simp only [Tup.of] at h
    obtain ⟨v, hv, h⟩ := wv_iff h
    obtain ⟨y, hy, h⟩ := Ty.on_iff h
    obtain ⟨st, hst, h⟩ := Tup.of_iff hk h
    refine ⟨(y, st), ?_, h⟩
    intro t u hu
    simp only [Tup.env, Env.get] at hu
    cases hb : Nat.beq x.1 t
    · rw [hb] at hu; exact hst t u hu
    · rw [hb] at hu
      simp only [cond_true, Option.some.injEq] at hu
      rw [← Nat.eq_of_beq_eq_true hb, ← hu, hy]
      exact hk x.1 v hv

theorem know_kept {n : Nat} {ws : List Nat} {a0 : Act} {w0 : World} {e0 e1 l : Env} {a : Act} {w : World} (h0 : Know e0 a0) (hi : Inv n ws a0 w0 e1 a w) (hsz : a0.tmps.size = n) (hl : Know l a) : Know (l ++ keepE ws e0) a := by
  intro t v h
  rw [get_append] at h
  split at h
  · rename_i u hu
    simp only [Option.some.injEq] at h
    subst h
    exact hl t _ hu
  · obtain ⟨hm, hg⟩ := get_keepE h
    have := h0.at hg
    obtain ⟨h1, h2⟩ := h0 t v hg
    refine ⟨by rw [hi.size, ← hsz]; exact h1, ?_⟩
    simp only [Array.getD_eq_getD_getElem?]
    rw [hi.kept t hm, this]
    rfl

/-- A loop: the state is carried beside the frame. -/
theorem wp_loop_st {σ : Type} {P : Program} {Q : Exit → Act → World → Prop} {c : Code} (I : σ → Act → World → Prop) (μ : σ → World → Nat)
    (round : ∀ s a w, I s a w → c.wp P (Exit.then (fun a' w' => ∃ s', I s' a' w' ∧ μ s' w' < μ s w) Q) a w) : ∀ s a w, I s a w → (Code.loop c).wp P Q a w := by
  intro s a w h₀ b k cs
  have key : ∀ n s a w, μ s w = n → I s a w →
      ∃ e a' w', Q e a' w' ∧ Arrives P (lone (b.at a (.code c :: .inLoop c :: k)) cs w) b k cs e a' w' := by
    intro n
    induction n using Nat.strongRecOn with
    | _ n ih =>
      intro s a w hn hI
      obtain ⟨e, a₁, w₁, hq, harr⟩ := round s a w hI b (.inLoop c :: k) cs
      cases e with
      | normal =>
        obtain ⟨s₁, hI₁, hlt⟩ := hq
        obtain ⟨e₂, a₂, w₂, hq₂, harr₂⟩ := ih (μ s₁ w₁) (hn ▸ hlt) s₁ a₁ w₁ rfl hI₁
        exact ⟨e₂, a₂, w₂, hq₂, .of_steps (Steps.trans harr (.one step_inLoop)) harr₂⟩
      | exit id => exact ⟨_, a₁, w₁, hq, .pass (x := .inLoop c) rfl (fun _ _ => .inl (by simp)) harr⟩
      | goto l => exact ⟨_, a₁, w₁, hq, .pass (x := .inLoop c) rfl (fun _ _ => .inl (by simp)) harr⟩
      | ret => exact ⟨_, a₁, w₁, hq, .pass (x := .inLoop c) rfl (fun _ _ => .inl (by simp)) harr⟩
      | panic ch => exact ⟨_, a₁, w₁, hq, .pass (x := .inLoop c) rfl (fun _ _ => .inl (by simp)) harr⟩
      | outgrown => exact ⟨_, a₁, w₁, hq, .pass (x := .inLoop c) rfl (fun _ _ => .inl (by simp)) harr⟩
  obtain ⟨e, a', w', hq, harr⟩ := key _ s a w rfl h₀
  exact ⟨e, a', w', hq, .of_steps (.one step_loop) harr⟩

/-- **Code.** -/
theorem cwp_sound {C : Ctx} (hG : C.Good) {H : Hints} {n : Nat} : ∀ (c : Code) (e : Env) (N : Env → Hp → Prop) (E : Nat → Env → Hp → Prop) (R : Env → Hp → Prop) (a : Act) (w : World),
    Know e a → a.tmps.size = n → a.defers = [] → cwp C H n c e w.heap N E R → c.wp C.P (Post n (wr c) a w N E R) a w := by
  intro c
  induction c with
  | skip => intro e N E R a w hk hs hd h; exact wp_skip ⟨e, ⟨hk, hs, hd, Stay.refl w, fun _ _ => rfl⟩, h⟩
  | ret => intro e N E R a w hk hs hd h; exact wp_ret ⟨e, ⟨hk, hs, hd, Stay.refl w, fun _ _ => rfl⟩, h⟩
  | exit id => intro e N E R a w hk hs hd h; exact wp_exit ⟨e, ⟨hk, hs, hd, Stay.refl w, fun _ _ => rfl⟩, h⟩
  | region id ops draw =>
    intro e N E R a w hk hs hd h
    simp only [cwp] at h
    obtain ⟨hdst, h⟩ := ite_iff h
    have hdo : ∀ o ∈ ops.toList, ∀ d, o.dst = some d → d < n ∧ memN (wr (.region id ops draw)) d = true := fun o ho d hd' => ⟨dstOk_iff hdst ho hd', mem_dsts ho hd'⟩
    have hi : Inv n (wr (.region id ops draw)) a w e a w := ⟨hk, hs, hd, Stay.refl w, fun _ _ => rfl⟩
    cases draw with
    | false =>
      refine wp_region ?_
      have := cops_sound hG (n := n) (Q := Post n (wr (.region id ops false)) a w N E R) hdo (fun e' a' w' hi' hN => ⟨e', hi', hN⟩) ops.toList 0 e a w (by simp) hi h
      rw [List.range_eq_range']
      simpa using this
    | true =>
      simp only at h
      split at h
      · rename_i ord nS _
        obtain ⟨hok, h⟩ := ite_iff h
        simp only [Bool.and_eq_true, Nat.ble_eq] at hok
        obtain ⟨⟨hok, hns⟩, hle⟩ := hok
        refine wp_region_any hG.mixed ?_
        have hi' : Inv n (wr (.region id ops true)) a w e a w.drew := ⟨hk, hs, hd, Stay.drew w, fun _ _ => rfl⟩
        have := cdraw_sound hG (n := n) (nS := nS) (N := N) (Q := Post n (wr (.region id ops true)) a w N E R) hns (fun _ _ _ hp => hp) hdo (fun e' a' w' hi' hN => ⟨e', hi', hN⟩) ord 0 (Array.replicate ops.size false) ops.size w.heap e a w.drew hle (by simp)
          (fun k => by simp [Array.getElem?_replicate]; split <;> rfl) hok hi' (Keep.refl _) h
        exact wpAny_of_N _ _ _ _ _ this
      · exact h.elim
  | seq x y ihx ihy =>
    intro e N E R a w hk hs hd h
    simp only [cwp] at h
    refine wp_seq ?_
    split at h
    · rename_i ts _
      obtain ⟨J, hrest, huse⟩ := h
      refine wp_mono (ihx e _ _ _ a w hk hs hd huse) ?_
      intro ex a1 w1 hp
      cases ex with
      | normal =>
        obtain ⟨e1, hi, hof⟩ := hp
        obtain ⟨st, hst, hJ⟩ := Tup.of_iff hi.know hof
        refine wp_mono (ihy _ _ _ _ a1 w1 (know_kept hk hi hs hst) hi.size hi.defers (hrest _ _ hJ)) ?_
        intro ex a2 w2 hp
        cases ex with
        | normal => obtain ⟨e2, hi2, h2⟩ := hp; exact ⟨e2, hi.trans hi2, h2⟩
        | exit i => obtain ⟨e2, hi2, h2⟩ := hp; exact ⟨e2, hi.trans hi2, h2⟩
        | ret => obtain ⟨e2, hi2, h2⟩ := hp; exact ⟨e2, hi.trans hi2, h2⟩
        | goto l => exact hp.elim
        | panic c => exact hp.elim
        | outgrown => exact hp.elim
      | exit i => obtain ⟨e1, hi, h1⟩ := hp; exact ⟨e1, hi.widen left_wide, h1⟩
      | ret => obtain ⟨e1, hi, h1⟩ := hp; exact ⟨e1, hi.widen left_wide, h1⟩
      | goto l => exact hp.elim
      | panic c => exact hp.elim
      | outgrown => exact hp.elim
    · refine wp_mono (ihx e _ _ _ a w hk hs hd h) ?_
      intro ex a1 w1 hp
      cases ex with
      | normal =>
        obtain ⟨e1, hi, h1⟩ := hp
        refine wp_mono (ihy _ _ _ _ a1 w1 hi.know hi.size hi.defers h1) ?_
        intro ex a2 w2 hp
        cases ex with
        | normal => obtain ⟨e2, hi2, h2⟩ := hp; exact ⟨e2, hi.trans hi2, h2⟩
        | exit i => obtain ⟨e2, hi2, h2⟩ := hp; exact ⟨e2, hi.trans hi2, h2⟩
        | ret => obtain ⟨e2, hi2, h2⟩ := hp; exact ⟨e2, hi.trans hi2, h2⟩
        | goto l => exact hp.elim
        | panic c => exact hp.elim
        | outgrown => exact hp.elim
      | exit i => obtain ⟨e1, hi, h1⟩ := hp; exact ⟨e1, hi.widen left_wide, h1⟩
      | ret => obtain ⟨e1, hi, h1⟩ := hp; exact ⟨e1, hi.widen left_wide, h1⟩
      | goto l => exact hp.elim
      | panic c => exact hp.elim
      | outgrown => exact hp.elim
  | cond o x y ihx ihy =>
    intro e N E R a w hk hs hd h
    simp only [cwp] at h
    obtain ⟨v, hv, h⟩ := wv_iff h
    have hev := hk.ev hv
    have wide : ∀ (ex : Exit) (a' : Act) (w' : World), (Post n (wr x) a w N E R ex a' w' ∨ Post n (wr y) a w N E R ex a' w') → Post n (wr (.cond o x y)) a w N E R ex a' w' := by
      intro ex a' w' hp
      cases ex with
      | normal =>
        rcases hp with ⟨e2, hi2, h2⟩ | ⟨e2, hi2, h2⟩
        · exact ⟨e2, hi2.widen left_wide, h2⟩
        · exact ⟨e2, hi2.widen right_wide, h2⟩
      | exit i =>
        rcases hp with ⟨e2, hi2, h2⟩ | ⟨e2, hi2, h2⟩
        · exact ⟨e2, hi2.widen left_wide, h2⟩
        · exact ⟨e2, hi2.widen right_wide, h2⟩
      | ret =>
        rcases hp with ⟨e2, hi2, h2⟩ | ⟨e2, hi2, h2⟩
        · exact ⟨e2, hi2.widen left_wide, h2⟩
        · exact ⟨e2, hi2.widen right_wide, h2⟩
      | goto l => rcases hp with hp | hp <;> exact hp.elim
      | panic c => rcases hp with hp | hp <;> exact hp.elim
      | outgrown => rcases hp with hp | hp <;> exact hp.elim
    rcases onBool_iff h with ⟨rfl, h⟩ | ⟨rfl, h⟩
    · exact wp_cond_true hev (wp_mono (ihx e N E R a w hk hs hd h) fun ex a' w' hp => wide ex a' w' (.inl hp))
    · exact wp_cond_false hev (wp_mono (ihy e N E R a w hk hs hd h) fun ex a' w' hp => wide ex a' w' (.inr hp))
  | block id x ih =>
    intro e N E R a w hk hs hd h
    simp only [cwp] at h
    refine wp_block (wp_mono (ih e _ _ _ a w hk hs hd h) ?_)
    intro ex a' w' hp
    cases ex with
    | normal => exact hp
    | exit i =>
      obtain ⟨e2, hi2, h2⟩ := hp
      simp only [Exit.inBlock]
      cases hb : Nat.beq i id
      · rw [hb] at h2
        rw [if_neg (fun e => by subst e; simp at hb)]
        exact ⟨e2, hi2, h2⟩
      · rw [hb] at h2
        rw [if_pos (Nat.eq_of_beq_eq_true hb)]
        exact ⟨e2, hi2, h2⟩
    | ret => exact hp
    | goto l => exact hp
    | panic c => exact hp
    | outgrown => exact hp
  | loop x ih =>
    intro e N E R a w hk hs hd h
    simp only [cwp] at h
    split at h
    · rename_i ts _
      obtain ⟨st0, hst0, I, μ, hI0, hround⟩ := Tup.of_iff hk h
      refine wp_loop_st (σ := Tup ts) (fun st a' w' => (∃ e', Inv n (wr x) a w e' a' w') ∧ Know (Tup.env ts st) a' ∧ I st w'.heap) (fun st w' => μ st w'.heap) ?_ st0 a w
        ⟨⟨e, hk, hs, hd, Stay.refl w, fun _ _ => rfl⟩, hst0, hI0⟩
      rintro st a1 w1 ⟨⟨e1, hi⟩, hst, hI⟩
      refine wp_mono (ih _ _ _ _ a1 w1 (know_kept hk hi hs hst) hi.size hi.defers (hround st w1.heap hI)) ?_
      have hself : ∀ t, memN (wr x) t = false → memN (wr x ++ wr x) t = false := fun t ht => by rw [memN_append, ht]; rfl
      intro ex a2 w2 hp
      cases ex with
      | normal =>
        obtain ⟨e2, hi2, hof⟩ := hp
        obtain ⟨st2, hst2, hI2, hlt⟩ := Tup.of_iff hi2.know hof
        exact ⟨st2, ⟨⟨e2, (hi.trans hi2).widen hself⟩, hst2, hI2⟩, hlt⟩
      | exit i => obtain ⟨e2, hi2, h2⟩ := hp; exact ⟨e2, (hi.trans hi2).widen hself, h2⟩
      | ret => obtain ⟨e2, hi2, h2⟩ := hp; exact ⟨e2, (hi.trans hi2).widen hself, h2⟩
      | goto l => exact hp.elim
      | panic c => exact hp.elim
      | outgrown => exact hp.elim
    · exact h.elim
  | rangeFunc f ps x y ihx ihy => intro e N E R a w hk hs hd h; simp [cwp] at h
  | scope x ih => intro e N E R a w hk hs hd h; simp [cwp] at h
  | label l => intro e N E R a w hk hs hd h; simp [cwp] at h
  | goto l => intro e N E R a w hk hs hd h; simp [cwp] at h
  | refuse m => intro e N E R a w hk hs hd h; simp [cwp] at h

/-! ### A function -/

theorem get_env0 : ∀ (l : List Value) (i t : Nat) (v : Value), Env.get (env0 l i) t = some v → i ≤ t ∧ l[t - i]? = some v
  | [], _, _, _, h => by simp [env0, Env.get] at h
  | x :: r, i, t, v, h => by
    simp only [env0, Env.get] at h
    cases hb : Nat.beq i t
    · rw [hb] at h
      obtain ⟨h1, h2⟩ := get_env0 r (i + 1) t v h
      refine ⟨by omega, ?_⟩
      rw [show t - i = (t - (i + 1)) + 1 by omega]
      simpa using h2
    · rw [hb] at h
      have := Nat.eq_of_beq_eq_true hb
      subst this
      simp only [cond_true, Option.some.injEq] at h
      exact ⟨Nat.le_refl _, by simp [h]⟩

def resF (a : Act) : ResultVar → Sem Value
  | .tmp t => pure (a.tmps.getD t undef)
  | .cell t ty => do loadVar ty (← asAddr (a.tmps.getD t undef))

theorem mapM_step {P : Program} {w : World} {F : ResultVar → Sem Value} {x : ResultVar} {r : List ResultVar} {v : Value} {vs : List Value} (h1 : (F x).run P w = .ok v w) (h2 : (r.mapM F).run P w = .ok vs w) :
    ((x :: r).mapM F).run P w = .ok (v :: vs) w := by
  rw [List.mapM_cons, Sem.run_bind, h1, Result.andThen_ok, Sem.run_bind, h2, Result.andThen_ok, Sem.run_pure]

theorem resK_run {P : Program} {a : Act} {w : World} : ∀ (rs : List ResultVar) (e : Env) (acc : List Value) {K : List Value → Prop}, Know e a → resK P rs e w.heap acc K →
    ∃ vs, K (acc.reverse ++ vs) ∧ (rs.mapM (resF a)).run P w = .ok vs w
  | [], e, acc, K, hk, h => ⟨[], by simpa [resK] using h, by simp⟩
  | .tmp t :: r, e, acc, K, hk, h => by
    simp only [resK] at h
    obtain ⟨v, hv, h⟩ := wv_iff h
    obtain ⟨vs, hK, hr⟩ := resK_run r e (v :: acc) hk h
    refine ⟨v :: vs, by simpa using hK, mapM_step ?_ hr⟩
    simp only [resF, (hk t v hv).2, Sem.run_pure]
  | .cell t ty :: r, e, acc, K, hk, h => by
    simp only [resK] at h
    split at h
    · rename_i fs hu
      obtain ⟨hz, h⟩ := ite_iff' h
      obtain ⟨i, hi, hsi, hne⟩ := szOk_iff (by simpa using hz)
      obtain ⟨v, hv, h⟩ := wv_iff h
      obtain ⟨p, rfl, cs, hc, h⟩ := onPtr_iff h
      obtain ⟨vs, hK, hr⟩ := resK_run r e (.agg cs :: acc) hk h
      refine ⟨.agg cs :: vs, by simpa using hK, mapM_step ?_ hr⟩
      have hl := run_loadCells_row (P := P) w hc
      simp only [resF, Sem.run_bind, (hk t _ hv).2, asAddr, Sem.run_pure, Result.andThen_ok, loadVar, isAgg, run_underlying hu, if_true, run_szOf w hi hsi, hl]
    · rename_i m el hu
      obtain ⟨hz, h⟩ := ite_iff' h
      obtain ⟨i, hi, hsi, hne⟩ := szOk_iff (by simpa using hz)
      obtain ⟨v, hv, h⟩ := wv_iff h
      obtain ⟨p, rfl, cs, hc, h⟩ := onPtr_iff h
      obtain ⟨vs, hK, hr⟩ := resK_run r e (.agg cs :: acc) hk h
      refine ⟨.agg cs :: vs, by simpa using hK, mapM_step ?_ hr⟩
      have hl := run_loadCells_row (P := P) w hc
      simp only [resF, Sem.run_bind, (hk t _ hv).2, asAddr, Sem.run_pure, Result.andThen_ok, loadVar, isAgg, run_underlying hu, if_true, run_szOf w hi hsi, hl]
    · rename_i d h1 h2 hu
      obtain ⟨v, hv, h⟩ := wv_iff h
      obtain ⟨p, rfl, x, hc, h⟩ := onPtr_iff h
      obtain ⟨vs, hK, hr⟩ := resK_run r e (x :: acc) hk h
      refine ⟨x :: vs, by simpa using hK, mapM_step ?_ hr⟩
      have hag : (isAgg ty).run P w = .ok false w := by
        cases d <;> first | (exact absurd rfl (h1 _)) | (exact absurd rfl (h2 _ _)) | simp [isAgg, run_underlying hu]
      simp only [resF, Sem.run_bind, (hk t _ hv).2, asAddr, Sem.run_pure, Result.andThen_ok, loadVar, hag, Bool.false_eq_true, if_false, run_load_cell w hc]
    · exact h.elim

/-- **A function.** -/
theorem run_of_cwp {C : Ctx} (hG : C.Good) {f : FuncId} {fn : Func} (hf : C.P.funcs[f]? = some fn) (H : Hints) (args : Array Value) (h : Hp) (K : Value → Hp → Prop) (hc : cwpF C H fn args h K) : Run C.P f args h K := by
  intro w hw
  subst hw
  unfold cwpF at hc
  split at hc
  · exact hc.elim
  · rename_i c hb
    obtain ⟨hle, hc⟩ := ite_iff hc
    rw [Nat.ble_eq] at hle
    refine calls_of_wp hf hb ?_
    have hsz : (args ++ Array.replicate (fn.ntmps - args.size) undef).size = fn.ntmps := by simp; omega
    refine wp_mono (cwp_sound hG c _ _ _ _ { tmps := args ++ Array.replicate (fn.ntmps - args.size) undef, defers := [] } w ?_ hsz rfl hc) ?_
    · intro t v hv
      obtain ⟨_, h2⟩ := get_env0 _ _ _ _ hv
      have h2 : args[t]? = some v := by simpa using h2
      have hlt : t < args.size := (Array.getElem?_eq_some_iff.1 h2).1
      refine ⟨by simp; omega, ?_⟩
      simp only [Array.getD_eq_getD_getElem?]
      rw [Array.getElem?_append_left hlt, h2]
      rfl
    · have fin : ∀ (a' : Act) (w' : World) (e : Env), Inv fn.ntmps (wr c) { tmps := args ++ Array.replicate (fn.ntmps - args.size) undef, defers := [] } w e a' w' →
          resK C.P fn.results.toList e w'.heap [] (fun vs => K (tupOf vs) w'.heap) → a'.defers = [] ∧ ∃ v, (results fn a'.tmps).run C.P w' = .ok v w' ∧ ∃ u, Ending.returned v = .returned u ∧ Stay w w' ∧ K u w'.heap := by
        intro a' w' e hi hr
        obtain ⟨vs, hK, hrun⟩ := resK_run _ e [] hi.know hr
        refine ⟨hi.defers, tupOf vs, ?_, _, rfl, hi.stay, by simpa using hK⟩
        have hres : results fn a'.tmps = (do
            let vs ← fn.results.mapM (resF a')
            pure (if h : vs.size = 1 then vs[0] else .tuple vs)) := by
          unfold results
          congr 1
        rw [hres, Array.mapM_eq_mapM_toList]
        simp only [Sem.run_bind, Sem.run_map, hrun, Result.andThen_ok, Sem.run_pure]
        congr 1
        match vs with
        | [] => rfl
        | [v] => rfl
        | v :: u :: r => rfl
      intro ex a' w' hp
      cases ex with
      | normal => obtain ⟨e, hi, hr⟩ := hp; exact fin a' w' e hi hr
      | ret => obtain ⟨e, hi, hr⟩ := hp; exact fin a' w' e hi hr
      | exit i => obtain ⟨e, hi, hr⟩ := hp; exact hr.elim
      | goto l => exact hp.elim
      | panic c => exact hp.elim
      | outgrown => exact hp.elim

#print axioms run_of_cwp
end Am
end Go.Proofs.Ytfijmoofdafoiaa
