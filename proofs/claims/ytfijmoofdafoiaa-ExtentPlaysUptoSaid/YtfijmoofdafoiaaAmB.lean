/-
  What the small form says of one operation holds of the model's own run of it. First those operations that turn nothing.
-/
import Derived.Test.YtfijmoofdafoiaaAmA
set_option linter.unusedSimpArgs false
set_option linter.unusedVariables false
namespace Go.Proofs.Ytfijmoofdafoiaa
open Go
namespace Am

/-- What is known of the frame's slots. -/
def Know (e : Env) (a : Act) : Prop := ∀ t v, Env.get e t = some v → t < a.tmps.size ∧ a.tmps.getD t undef = v

theorem Know.ev {e : Env} {a : Act} (hk : Know e a) {x : Operand} {v : Value} (h : ev e x = some v) : a.eval x = v := by
  cases x with
  | tmp t => exact (hk t v h).2
  | const c => simpa [Am.ev, Act.eval] using h
  | «global» g => simpa [Am.ev, Act.eval] using h
  | func f => simpa [Am.ev, Act.eval] using h

theorem wv_iff {o : Option Value} {K : Value → Prop} (h : wv o K) : ∃ v, o = some v ∧ K v := by
  cases o with
  | none => exact h.elim
  | some v => exact ⟨v, rfl, h⟩
theorem onO_iff {α : Type} {o : Option α} {K : α → Prop} (h : onO o K) : ∃ v, o = some v ∧ K v := by
  cases o with
  | none => exact h.elim
  | some v => exact ⟨v, rfl, h⟩
theorem onPtr_iff {v : Value} {K : Addr → Prop} (h : onPtr v K) : ∃ a, v = .pointer (some a) ∧ K a := by
  unfold onPtr at h; split at h
  · exact ⟨_, rfl, h⟩
  · exact h.elim
theorem onP_iff {v : Value} {K : Option Addr → Prop} (h : onP v K) : ∃ a, v = .pointer a ∧ K a := by
  unfold onP at h; split at h
  · exact ⟨_, rfl, h⟩
  · exact h.elim
theorem onI_iff {k : IntKind} {v : Value} {K : Int → Prop} (h : onI k v K) : ∃ n, v = .int k n ∧ K n := by
  unfold onI at h; split at h
  · split at h
    · rename_i e; subst e; exact ⟨_, rfl, h⟩
    · exact h.elim
  · exact h.elim
theorem onAny_iff {v : Value} {K : Int → Prop} (h : onAny v K) : ∃ k n, v = .int k n ∧ K n := by
  unfold onAny at h; split at h
  · exact ⟨_, _, rfl, h⟩
  · exact h.elim
theorem onB_iff {v : Value} {K : Bool → Prop} (h : onB v K) : ∃ b, v = .bool b ∧ K b := by
  unfold onB at h; split at h
  · exact ⟨_, rfl, h⟩
  · exact h.elim
theorem onS_iff {v : Value} {K : ByteArray → Prop} (h : onS v K) : ∃ b, v = .string b ∧ K b := by
  unfold onS at h; split at h
  · exact ⟨_, rfl, h⟩
  · exact h.elim
theorem onSl_iff {v : Value} {K : Option Addr → Nat → Nat → Prop} (h : onSl v K) : ∃ a l c, v = .slice a l c ∧ K a l c := by
  unfold onSl at h; split at h
  · exact ⟨_, _, _, rfl, h⟩
  · exact h.elim
theorem onAgg_iff {v : Value} {K : Array Value → Prop} (h : onAgg v K) : ∃ c, v = .agg c ∧ K c := by
  unfold onAgg at h; split at h
  · exact ⟨_, rfl, h⟩
  · exact h.elim
theorem onTup_iff {i : Nat} {v : Value} {K : Value → Prop} (h : onTup i v K) : ∃ vs x, v = .tuple vs ∧ vs[i]? = some x ∧ K x := by
  unfold onTup at h; split at h
  · split at h
    · rename_i x hx; exact ⟨_, x, rfl, hx, h⟩
    · exact h.elim
  · exact h.elim
theorem bsel_iff {b : Bool} {A B : Prop} (h : bsel b A B) : (b = true ∧ A) ∨ (b = false ∧ B) := by
  cases b
  · exact .inr ⟨rfl, h⟩
  · exact .inl ⟨rfl, h⟩
theorem onBool_iff {v : Value} {A B : Prop} (h : onBool v A B) : (v = .bool true ∧ A) ∨ (v = .bool false ∧ B) := by
  unfold onBool at h; split at h
  · rcases bsel_iff h with ⟨rfl, h⟩ | ⟨rfl, h⟩
    · exact .inl ⟨rfl, h⟩
    · exact .inr ⟨rfl, h⟩
  · exact h.elim
theorem onG_iff {v : Value} {A B S : Prop} (h : onG v A B S) : (v = .bool true ∧ A) ∨ (v = .bool false ∧ B) ∨ ((∃ t, v = .tuple t) ∧ S) := by
  unfold onG at h; split at h
  · rcases bsel_iff h with ⟨rfl, h⟩ | ⟨rfl, h⟩
    · exact .inl ⟨rfl, h⟩
    · exact .inr (.inl ⟨rfl, h⟩)
  · exact .inr (.inr ⟨⟨_, rfl⟩, h⟩)
  · exact h.elim
theorem szIs_iff {n m : Nat} {Q : Prop} (h : szIs n m Q) : n = m ∧ Q := by
  unfold szIs at h; split at h
  · exact ⟨‹_›, h⟩
  · exact h.elim
theorem ite_iff {c : Prop} [Decidable c] {Q : Prop} (h : if c then Q else False) : c ∧ Q := by
  split at h
  · exact ⟨‹_›, h⟩
  · exact h.elim
theorem ite_iff' {c : Prop} [Decidable c] {Q : Prop} (h : if c then False else Q) : ¬ c ∧ Q := by
  split at h
  · exact h.elim
  · exact ⟨‹_›, h⟩

theorem evs_iff {e : Env} {a : Act} (hk : Know e a) : ∀ (xs : List Operand) (acc : List Value) {K : List Value → Prop}, evs e xs acc K → K (acc.reverse ++ xs.map a.eval)
  | [], acc, K, h => by simpa [evs] using h
  | x :: r, acc, K, h => by
    obtain ⟨v, hv, h⟩ := wv_iff h
    have := evs_iff hk r (v :: acc) h
    simpa [hk.ev hv] using this

theorem szOk_iff {P : Program} {t : TypeId} (h : szOk P t = true) : ∃ i, P.info? t = some i ∧ i.size = szOf P t ∧ szOf P t ≠ 0 := by
  unfold szOk at h
  split at h
  · rename_i i hi
    refine ⟨i, hi, by simp [szOf, hi], ?_⟩
    simp [szOf, hi]
    intro e
    simp [e] at h
  · cases h
theorem hasZero_iff {P : Program} {t : TypeId} (h : hasZero P t = true) : ∃ i z, P.info? t = some i ∧ i.zero = some z ∧ i.size = szOf P t ∧ i.bytes = byOf P t ∧ z.cells = zeroOf P t := by
  unfold hasZero at h
  split at h
  · rename_i i hi
    obtain ⟨z, hz⟩ := Option.isSome_iff_exists.1 h
    exact ⟨i, z, hi, hz, by simp [szOf, hi], by simp [byOf, hi], by simp [zeroOf, hi, hz]⟩
  · cases h

/-! ### Memory -/

theorem cellH_heap (w : World) (a : Addr) : cellH w.heap a = w.cell? a := rfl

theorem cellH_block {h : Hp} {a : Addr} {v : Value} (hc : cellH h a = some v) : ∃ c e fr, h[a.block]? = some (.cells c e fr) ∧ a.spot = none ∧ c[a.off]? = some v := by
  unfold cellH at hc
  split at hc
  · rename_i c e fr hb
    refine ⟨c, e, fr, hb, ?_⟩
    cases hs : a.spot with
    | none => simpa [hs] using hc
    | some s => simp [hs] at hc
  · cases hc

theorem lt_of_get {h : Hp} {b : Nat} {o : Obj} (hb : h[b]? = some o) : b < h.size := (Array.getElem?_eq_some_iff.1 hb).1

theorem Keep.refl (h : Hp) : Keep h h := fun _ _ => rfl
theorem Keep.cell {h h' : Hp} (hk : Keep h h') {a : Addr} {v : Value} (hc : cellH h a = some v) : cellH h' a = some v := by
  obtain ⟨c, e, fr, hb, hs, hv⟩ := cellH_block hc
  have := hk a.block (lt_of_get hb)
  simp [cellH, this, hb, hs, hv]

theorem rowH_zero {h : Hp} {a : Addr} {vs : Array Value} (hr : rowH h a 0 = some vs) : vs = #[] := by
  simp only [rowH, if_true, Option.some.injEq] at hr; exact hr.symm

theorem rowH_block {h : Hp} {a : Addr} {n : Nat} {vs : Array Value} (hn : n ≠ 0) (hr : rowH h a n = some vs) : ∃ c e fr, h[a.block]? = some (.cells c e fr) ∧ a.spot = none ∧ a.off + n ≤ c.size ∧ vs = c.extract a.off (a.off + n) := by
  unfold rowH at hr
  rw [if_neg hn] at hr
  split at hr
  · rename_i c e fr hb
    split at hr
    · rename_i hc
      simp only [Bool.and_eq_true, Option.isNone_iff_eq_none, Nat.ble_eq] at hc
      exact ⟨c, e, fr, hb, hc.1, hc.2, (Option.some.inj hr).symm⟩
    · cases hr
  · cases hr

theorem rowH_size {h : Hp} {a : Addr} {n : Nat} {vs : Array Value} (hr : rowH h a n = some vs) : vs.size = n := by
  by_cases hn : n = 0
  · subst hn; rw [rowH_zero hr]; rfl
  obtain ⟨c, e, fr, _, _, hl, rfl⟩ := rowH_block hn hr
  simp; omega

theorem Addr.add_none (b o n : Nat) : (⟨b, o, none⟩ : Addr).add n = ⟨b, o + n, none⟩ := by
  unfold Addr.add; split <;> simp_all

theorem rowH_cell {h : Hp} {a : Addr} {n : Nat} {vs : Array Value} (hr : rowH h a n = some vs) {j : Nat} {v : Value} (hj : vs[j]? = some v) : cellH h (a.add j) = some v := by
  by_cases hn : n = 0
  · subst hn; rw [rowH_zero hr] at hj; simp at hj
  obtain ⟨c, e, fr, hb, hs, hl, rfl⟩ := rowH_block hn hr
  obtain ⟨b, o, s⟩ := a
  cases hs
  rw [Addr.add_none]
  simp only [cellH]
  simp only at hb hl hj
  rw [hb]
  have : j < n := by
    have := (Array.getElem?_eq_some_iff.1 hj).1
    simp at this; omega
  simp only [Array.getElem?_extract] at hj
  split at hj
  · simpa using hj
  · cases hj

theorem Keep.row {h h' : Hp} (hk : Keep h h') {a : Addr} {n : Nat} {vs : Array Value} (hr : rowH h a n = some vs) : rowH h' a n = some vs := by
  by_cases hn : n = 0
  · subst hn; rw [rowH_zero hr]; simp [rowH]
  obtain ⟨c, e, fr, hb, hs, hl, rfl⟩ := rowH_block hn hr
  have := hk a.block (lt_of_get hb)
  simp [rowH, hn, this, hb, hs, hl]

theorem run_loadCells_row {P : Program} (w : World) {a : Addr} {n : Nat} {vs : Array Value} (hr : rowH w.heap a n = some vs) : (loadCells a n).run P w = .ok vs w := by
  have hn := rowH_size hr
  have := run_loadCells_list (P := P) w a vs.toList (fun j v hj => rowH_cell hr (by simpa using hj))
  simpa [hn] using this

theorem run_load_cell {P : Program} (w : World) {a : Addr} {v : Value} (hc : cellH w.heap a = some v) (m : Mode) : (load a m).run P w = .ok v w := by
  rw [run_load, show w.cell? a = some v from hc]

/-! ### Operations that turn nothing -/

section
variable {C : Ctx} {e : Env} {a : Act} {h : Hp} {o : Oper}

theorem typed_iff {P : Program} {t : TypeId} {v : Value} {K : Value → Prop} (h : typed P t v K) : K v := by
  unfold typed at h
  split at h
  · obtain ⟨n, rfl, h'⟩ := onI_iff h; exact h'
  · obtain ⟨n, rfl, h'⟩ := onB_iff h; exact h'
  · obtain ⟨n, rfl, h'⟩ := onP_iff h; exact h'
  · obtain ⟨_, _, _, rfl, h'⟩ := onSl_iff h; exact h'
  · obtain ⟨n, rfl, h'⟩ := onS_iff h; exact h'
  · obtain ⟨n, rfl, h'⟩ := onAgg_iff h; exact h'
  · obtain ⟨n, rfl, h'⟩ := onAgg_iff h; exact h'
  · exact h

/-- The operation yields v and turns nothing, in this world. -/
def Gives (C : Ctx) (a : Act) (o : Oper) (v : Value) (w : World) : Prop := (execOp a.eval o).run C.P w = .ok (.value v) w

theorem eqInts_size : ∀ {xs ys : List Value} {r : Bool}, eqInts xs ys = some r → xs.length = ys.length
  | [], [], _, _ => rfl
  | [], _ :: _, _, h => by simp [eqInts] at h
  | .int k a :: xs, [], _, h => by simp [eqInts] at h
  | .int k a :: xs, .int k' b :: ys, r, h => by
    simp only [eqInts] at h
    split at h
    · split at h
      · rename_i x hx
        simp [eqInts_size hx]
      · cases h
    · cases h
  | .int _ _ :: _, .bool _ :: _, _, h | .int _ _ :: _, .float _ _ :: _, _, h | .int _ _ :: _, .complex _ _ _ :: _, _, h | .int _ _ :: _, .string _ :: _, _, h | .int _ _ :: _, .pointer _ :: _, _, h | .int _ _ :: _, .slice _ _ _ :: _, _, h
  | .int _ _ :: _, .map _ :: _, _, h | .int _ _ :: _, .chan _ :: _, _, h | .int _ _ :: _, .func _ _ _ :: _, _, h | .int _ _ :: _, .nilFunc :: _, _, h | .int _ _ :: _, .iface _ _ :: _, _, h | .int _ _ :: _, .nilIface :: _, _, h | .int _ _ :: _, .agg _ :: _, _, h | .int _ _ :: _, .tuple _ :: _, _, h => by simp [eqInts] at h
  | .bool _ :: _, _, _, h | .float _ _ :: _, _, _, h | .complex _ _ _ :: _, _, _, h | .string _ :: _, _, _, h | .pointer _ :: _, _, _, h | .slice _ _ _ :: _, _, _, h
  | .map _ :: _, _, _, h | .chan _ :: _, _, _, h | .func _ _ _ :: _, _, _, h | .nilFunc :: _, _, _, h | .iface _ _ :: _, _, _, h | .nilIface :: _, _, _, h | .agg _ :: _, _, _, h | .tuple _ :: _, _, _, h => by
    simp [eqInts] at h


theorem flatInts_cons {P : Program} {o : Nat} {f : Field} {r : List Field} (h : flatInts P o (f :: r) = true) : f.offset = o ∧ (∃ k, P.underlying f.type = some (.int k)) ∧ f.name ≠ "_" ∧ flatInts P (o + 1) r = true := by
  simp only [flatInts, Bool.and_eq_true, Bool.not_eq_true'] at h
  obtain ⟨⟨⟨h1, h2⟩, h3⟩, h4⟩ := h
  refine ⟨Nat.eq_of_beq_eq_true h1, ?_, by simpa using h3, h4⟩
  split at h2
  · rename_i k hk; exact ⟨k, hk⟩
  · cases h2

theorem run_part_int {P : Program} (w : World) {t : TypeId} {k : IntKind} (ht : P.underlying t = some (.int k)) {cs : Array Value} {o : Nat} {v : Value} (hv : cs[o]? = some v) : (part t cs o).run P w = .ok v w := by
  simp [part, isAgg, run_underlying ht, hv]

theorem eqFields_ints {P : Program} (w : World) (d : Nat) {X Y : Array Value} : ∀ (fs : List Field) (o : Nat) (xs ys : List Value) (r : Bool), flatInts P o fs = true → (∀ j, X[o + j]? = xs[j]?) → (∀ j, Y[o + j]? = ys[j]?) → xs.length = fs.length →
    eqInts xs ys = some r → (Op.eqFields (d + 1) X Y fs).run P w = .ok r w
  | [], o, xs, ys, r, _, _, _, hl, he => by
    have : xs = [] := List.length_eq_zero_iff.1 (by simpa using hl)
    subst this
    cases ys with
    | nil => simp [eqInts] at he; subst he; simp [Op.eqFields]
    | cons y ys => simp [eqInts] at he
  | f :: fs, o, xs, ys, r, hf, hx, hy, hl, he => by
    obtain ⟨ho, ⟨k, hk⟩, hn, hr⟩ := flatInts_cons hf
    cases xs with
    | nil => simp at hl
    | cons x xs =>
      cases ys with
      | nil => cases x <;> simp [eqInts] at he
      | cons y ys =>
        cases x with
        | int kx a =>
          cases y with
          | int ky b =>
            simp only [eqInts] at he
            split at he
            · rename_i ek
              subst ek
              split at he
              · rename_i z hz
                have h1 := run_part_int w hk (cs := X) (o := f.offset) (v := .int kx a) (by rw [ho]; simpa using hx 0)
                have h2 := run_part_int w hk (cs := Y) (o := f.offset) (v := .int kx b) (by rw [ho]; simpa using hy 0)
                have ih := eqFields_ints w d (X := X) (Y := Y) fs (o + 1) xs ys z hr (fun j => by have := hx (j + 1); simpa [Nat.add_assoc, Nat.add_comm 1 j] using this) (fun j => by have := hy (j + 1); simpa [Nat.add_assoc, Nat.add_comm 1 j] using this) (by simpa using hl) hz
                simp only [Option.some.injEq] at he
                simp only [Op.eqFields, ne_eq, hn, not_false_eq_true, if_true, Sem.run_bind, h1, h2, Result.andThen_ok, run_equalIn_int w d f.type kx k a b hk]
                by_cases hab : a = b
                · subst hab
                  simp only [beq_self_eq_true, Bool.not_true, Bool.false_eq_true, if_false, ih]
                  rw [← he]; simp
                · have : (a == b) = false := by simpa using hab
                  simp only [this, Bool.not_false, if_true, Sem.run_pure]
                  rw [← he]; simp [hab]
              · cases he
            · cases he
          | _ => simp [eqInts] at he
        | _ => simp [eqInts] at he

theorem bop_sound {P : Program} {op : BinOp} {t : TypeId} {x y : Value} {K : Value → Prop} (hb : bop P op t x y K) (xo yo : Operand) :
    ∃ v, K v ∧ ∀ w : World, (do eqGuard op t xo yo x y; binOp op t x y : Sem Value).run P w = .ok v w := by
  unfold bop at hb
  split at hb
  · obtain ⟨p, e_, hb'⟩ := onI_iff hb; subst e_; clear hb; have hb := hb'; clear hb'
    obtain ⟨q, e_, hb'⟩ := onI_iff hb; subst e_; clear hb; have hb := hb'; clear hb'
    split at hb
    · exact ⟨_, hb, fun w => by simp [eqGuard, binOp, Op.intArith]⟩
    · exact ⟨_, hb, fun w => by simp [eqGuard, binOp, Op.intArith]⟩
    · exact ⟨_, hb, fun w => by simp [eqGuard, binOp, Op.intArith]⟩
    · obtain ⟨hq, hb⟩ := ite_iff' hb
      exact ⟨_, hb, fun w => by simp [eqGuard, binOp, Op.intDiv, hq]⟩
    · obtain ⟨hq, hb⟩ := ite_iff' hb
      exact ⟨_, hb, fun w => by simp [eqGuard, binOp, Op.intDiv, hq]⟩
    · exact ⟨_, hb, fun w => by simp [eqGuard, binOp, Op.intCmp]; rfl⟩
    · exact ⟨_, hb, fun w => by simp [eqGuard, binOp, Op.intCmp]; rfl⟩
    · exact ⟨_, hb, fun w => by simp [eqGuard, binOp, Op.intCmp]⟩
    · exact ⟨_, hb, fun w => by simp [eqGuard, binOp, Op.intCmp]⟩
    · exact ⟨_, hb, fun w => by simp [eqGuard, binOp, Op.intCmp]⟩
    · exact ⟨_, hb, fun w => by simp [eqGuard, binOp, Op.intCmp]⟩
    · exact hb.elim
  · rename_i hu
    obtain ⟨p, e_, hb'⟩ := onB_iff hb; subst e_; clear hb; have hb := hb'; clear hb'
    obtain ⟨q, e_, hb'⟩ := onB_iff hb; subst e_; clear hb; have hb := hb'; clear hb'
    have key : ∀ w : World, (Op.equalIn 10000 t (.bool p) (.bool q)).run P w = .ok (p == q) w := fun w => run_equalIn_bool' w 9999 t p q hu
    split at hb
    · exact ⟨_, hb, fun w => by
        have hg : (eqGuard .eql t xo yo (.bool p) (.bool q)).run P w = .ok () w := by simp [eqGuard]
        rw [Sem.run_bind, hg, Result.andThen_ok]
        simp only [binOp, Op.equal, Op.maxDepth, Sem.run_bind, key w, Result.andThen_ok, Sem.run_pure]⟩
    · exact ⟨_, hb, fun w => by
        have hg : (eqGuard .neq t xo yo (.bool p) (.bool q)).run P w = .ok () w := by simp [eqGuard]
        rw [Sem.run_bind, hg, Result.andThen_ok]
        simp only [binOp, Op.equal, Op.maxDepth, Sem.run_bind, key w, Result.andThen_ok, Sem.run_pure]⟩
    · exact hb.elim
  · rename_i hu
    obtain ⟨p, e_, hb'⟩ := onS_iff hb; subst e_; clear hb; have hb := hb'; clear hb'
    obtain ⟨q, e_, hb'⟩ := onS_iff hb; subst e_; clear hb; have hb := hb'; clear hb'
    split at hb
    · exact ⟨_, hb, fun w => by simp [eqGuard, binOp, Op.stringOp]⟩
    · exact hb.elim
  · rename_i el hu
    obtain ⟨p, e_, hb'⟩ := onP_iff hb; subst e_; clear hb; have hb := hb'; clear hb'
    obtain ⟨q, e_, hb'⟩ := onP_iff hb; subst e_; clear hb; have hb := hb'; clear hb'
    obtain ⟨hn, hb⟩ := hb
    have key : ∀ w : World, (Op.equalIn 10000 t (.pointer p) (.pointer q)).run P w = .ok (p.isNone && q.isNone) w := by
      intro w
      have one : ∀ d : Nat, (Op.equalIn (d + 1) t (.pointer p) (.pointer q)).run P w = .ok (p.isNone && q.isNone) w := by
        intro d
        rcases hn with rfl | rfl
        · cases q <;> simp [Op.equalIn, run_underlying hu]
        · cases p <;> simp [Op.equalIn, run_underlying hu]
      exact one 9999
    split at hb
    · exact ⟨_, hb, fun w => by
        have hg : (eqGuard .eql t xo yo (.pointer p) (.pointer q)).run P w = .ok () w := by simp [eqGuard]
        rw [Sem.run_bind, hg, Result.andThen_ok]
        simp only [binOp, Op.equal, Op.maxDepth, Sem.run_bind, key w, Result.andThen_ok, Sem.run_pure]⟩
    · exact ⟨_, hb, fun w => by
        have hg : (eqGuard .neq t xo yo (.pointer p) (.pointer q)).run P w = .ok () w := by simp [eqGuard]
        rw [Sem.run_bind, hg, Result.andThen_ok]
        simp only [binOp, Op.equal, Op.maxDepth, Sem.run_bind, key w, Result.andThen_ok, Sem.run_pure]⟩
    · exact hb.elim
  · rename_i fs hu
    obtain ⟨hc, hb⟩ := ite_iff hb
    simp only [Bool.and_eq_true, Bool.not_eq_true'] at hc
    obtain ⟨⟨hfl, hst⟩, heq⟩ := hc
    obtain ⟨p, e_, hb'⟩ := onAgg_iff hb; subst e_; clear hb; have hb := hb'; clear hb'
    obtain ⟨q, e_, hb'⟩ := onAgg_iff hb; subst e_; clear hb; have hb := hb'; clear hb'
    obtain ⟨hp, hq, r, hr, hb⟩ := hb
    have hfo : P.fieldsOf t = fs := by simp [Program.fieldsOf, hu]
    have key : ∀ w : World, (Op.equalIn 10000 t (.agg p) (.agg q)).run P w = .ok r w := by
      intro w
      rw [run_equalIn_struct w 9999 t p q (by rw [hfo]; exact hu) hst, hfo]
      exact eqFields_ints w 9998 fs.toList 0 p.toList q.toList r hfl (fun j => by simp) (fun j => by simp) (by simpa using hp) hr
    split at hb
    · exact ⟨_, hb, fun w => by simp [run_eqGuard_agg w _ t xo yo p q heq, run_eql_struct, key w]⟩
    · exact ⟨_, hb, fun w => by simp [run_eqGuard_agg w _ t xo yo p q heq, run_neq_struct, key w]⟩
    · exact hb.elim
  · exact hb.elim

theorem uop_sound {P : Program} {op : UnOp} {x : Value} {k : Option IntKind} {K : Value → Prop} (hb : uop op x k K) : ∃ v, K v ∧ ∀ w : World, (Op.unary op x).run P w = .ok v w := by
  unfold uop at hb
  split at hb
  · obtain ⟨p, e_, hb'⟩ := onB_iff hb; subst e_; clear hb; have hb := hb'; clear hb'
    exact ⟨_, hb, fun w => by simp [Op.unary]⟩
  · obtain ⟨k, e_, hb'⟩ := onO_iff hb; subst e_; clear hb; have hb := hb'; clear hb'
    obtain ⟨n, e_, hb'⟩ := onI_iff hb; subst e_; clear hb; have hb := hb'; clear hb'
    exact ⟨_, hb, fun w => by simp [Op.unary, Op.intBits, xorN]⟩
  · exact hb.elim

theorem slHi_iff {cap len : Nat} {hi : Option Value} {K : Nat → Prop} (h : slHi cap len hi K) :
    (hi = none ∧ K len) ∨ ∃ k i, hi = some (.int k i) ∧ 0 ≤ i ∧ i ≤ cap ∧ K i.toNat := by
  unfold slHi at h
  split at h
  · exact .inl ⟨rfl, h⟩
  · obtain ⟨k, i, rfl, h1, h2⟩ := onAny_iff h
    exact .inr ⟨k, i, rfl, h1.1, h1.2, h2⟩
theorem slLo_iff {hh : Nat} {lo : Option Value} {K : Nat → Prop} (h : slLo hh lo K) :
    (lo = none ∧ K 0) ∨ ∃ k i, lo = some (.int k i) ∧ 0 ≤ i ∧ i ≤ hh ∧ K i.toNat := by
  unfold slLo at h
  split at h
  · exact .inl ⟨rfl, h⟩
  · obtain ⟨k, i, rfl, h1, h2⟩ := onAny_iff h
    exact .inr ⟨k, i, rfl, h1.1, h1.2, h2⟩

theorem run_bound {P : Program} (w : World) {k : IntKind} {i : Int} {y : Nat} {c : BoundsCode} (h0 : 0 ≤ i) (h1 : i ≤ y) : (Instr.sliceBound (.int k i) y c).run P w = .ok i.toNat w := by
  simp [Instr.sliceBound, asIntOf, h0, h1]

theorem sl_sound {P : Program} {isS : Bool} {len cap : Nat} {lo hi : Option Value} {K : Nat → Nat → Prop} (h : slHi cap len hi fun hh => slLo hh lo fun l => K hh l) (hm : cap = cap) :
    ∃ hh l, K hh l ∧ ∀ w : World, (Instr.sliceBounds isS len cap lo hi none).run P w = .ok (l, hh, cap) w := by
  rcases slHi_iff h with ⟨rfl, h⟩ | ⟨k, i, rfl, h0, h1, h⟩
  · rcases slLo_iff h with ⟨rfl, h⟩ | ⟨k, j, rfl, g0, g1, h⟩
    · exact ⟨_, _, h, fun w => by simp [Instr.sliceBounds]⟩
    · exact ⟨_, _, h, fun w => by simp [Instr.sliceBounds, run_bound w g0 g1]⟩
  · rcases slLo_iff h with ⟨rfl, h⟩ | ⟨k', j, rfl, g0, g1, h⟩
    · exact ⟨_, _, h, fun w => by simp [Instr.sliceBounds, run_bound w h0 h1]⟩
    · exact ⟨_, _, h, fun w => by simp [Instr.sliceBounds, run_bound w h0 h1, run_bound w g0 g1]⟩

theorem evO_iff {e : Env} {a : Act} (hk : Know e a) {o : Option Operand} {K : Option Value → Prop} (h : evO e o K) : K (o.map a.eval) := by
  cases o with
  | none => exact h
  | some x => obtain ⟨v, hv, h⟩ := wv_iff h; simpa [hk.ev hv] using h

theorem fplaces_iff {P : Program} {fs : Array Field} : ∀ {ps : List (Nat × Value)} {pl : List (Nat × Nat × Value)}, fplaces P fs ps = some pl →
    pl.length = ps.length ∧ ∀ (w : World) (places : Array (Nat × Nat)), (∀ (j : Nat) (f : Field), fs[j]? = some f → szOk P f.type = true → places[j]? = some (f.offset, szOf P f.type)) →
      ∀ (cells : List Value) (cs : List Value), fillL cells pl = some cs → Instr.fill (places[·]?) cells.toArray ps = some cs.toArray := by
  intro ps
  induction ps with
  | nil => intro pl h; simp [fplaces] at h; subst h; exact ⟨rfl, fun w places hp cells cs hf => by simp [fillL] at hf; subst hf; simp [Instr.fill]⟩
  | cons p ps ih =>
    intro pl h
    obtain ⟨i, v⟩ := p
    simp only [fplaces] at h
    split at h
    · rename_i f l hf hl
      split at h
      · rename_i hsz
        simp only [Option.some.injEq] at h
        subst h
        obtain ⟨h1, h2⟩ := ih hl
        refine ⟨by simp [h1], fun w places hp cells cs hfill => ?_⟩
        simp only [fillL] at hfill
        split at hfill
        · rename_i hc
          have := h2 w places hp _ cs hfill
          have hpl := hp i f hf hsz
          simp only [Instr.fill, hpl]
          rw [if_neg (by simp [hc.1]; omega)]
          have hfold : (v.cells.zipIdx.foldl (fun cs (x : Value × Nat) => cs.setIfInBounds (f.offset + x.2) x.1) cells.toArray) = (cells.take f.offset ++ v.cells.toList ++ cells.drop (f.offset + szOf P f.type)).toArray := by
            have e1 := hc.1
            have e2 := hc.2
            rw [← e1] at e2 ⊢
            have gen : ∀ (vs : List Value) (o k : Nat) (cs : List Value), o + k + vs.length ≤ cs.length →
                (vs.zipIdx k).foldl (fun (cs : Array Value) (x : Value × Nat) => cs.setIfInBounds (o + x.2) x.1) cs.toArray = (cs.take (o + k) ++ vs ++ cs.drop (o + k + vs.length)).toArray := by
              intro vs
              induction vs with
              | nil => intro o k cs hle; simp
              | cons u us ihu =>
                intro o k cs hle
                simp only [List.zipIdx_cons, List.foldl_cons, List.length_cons] at *
                rw [show (cs.toArray.setIfInBounds (o + k) u) = (cs.set (o + k) u).toArray by simp]
                rw [ihu o (k + 1) (cs.set (o + k) u) (by simp; omega)]
                congr 1
                have := list_seg_step cs (o + k) u us (by omega)
                simpa [Nat.add_assoc] using this
            have := gen v.cells.toList f.offset 0 cells (by simpa using e2)
            rw [← Array.foldl_toList]
            simpa using this
          rw [hfold]
          exact this
        · cases hfill
      · cases h
    · cases h

/-- **An operation that turns nothing yields what its small form says.** -/
theorem qop_sound {K : Value → Prop} (hk : Know e a) (hq : qop C e h o K) : ∃ v, K v ∧ ∀ w : World, (sortOf C o = .pure ∨ Keep h w.heap) → Gives C a o v w := by
  unfold qop at hq
  cases hop : o.op with
  | move x =>
    simp only [hop] at hq
    obtain ⟨v, hv, hK⟩ := wv_iff hq
    exact ⟨v, hK, fun w _ => by simp [Gives, execOp, hop, hk.ev hv]⟩
  | assign x =>
    simp only [hop] at hq
    obtain ⟨v, hv, hK⟩ := wv_iff hq
    exact ⟨v, hK, fun w _ => by simp [Gives, execOp, hop, hk.ev hv]⟩
  | pick c x y =>
    simp only [hop] at hq
    obtain ⟨vc, hc, hq⟩ := wv_iff hq
    obtain ⟨vx, hx, hq⟩ := wv_iff hq
    obtain ⟨vy, hy, hq⟩ := wv_iff hq
    rcases onBool_iff hq with ⟨rfl, hK⟩ | ⟨rfl, hK⟩
    · exact ⟨vx, hK, fun w _ => by simp [Gives, execOp, hop, hk.ev hc, hk.ev hx, asBool]⟩
    · exact ⟨vy, hK, fun w _ => by simp [Gives, execOp, hop, hk.ev hc, hk.ev hy, asBool]⟩
  | nilCheck x =>
    simp only [hop] at hq
    obtain ⟨v, hv, hq⟩ := wv_iff hq
    obtain ⟨p, rfl, hK⟩ := onPtr_iff hq
    exact ⟨_, hK, fun w _ => by simp [Gives, execOp, hop, hk.ev hv]⟩
  | binOp op t x y yt =>
    simp only [hop] at hq
    obtain ⟨vx, hx, hq⟩ := wv_iff hq
    obtain ⟨vy, hy, hq⟩ := wv_iff hq
    obtain ⟨v, hK, hr⟩ := bop_sound hq x y
    refine ⟨v, hK, fun w _ => ?_⟩
    have := hr w
    unfold Gives
    simp only [execOp, hop, hk.ev hx, hk.ev hy]
    rw [Sem.run_bind] at this
    simp only [Sem.run_bind, Sem.run_pure]
    rw [this]
    rfl
  | unOp op t x =>
    simp only [hop] at hq
    obtain ⟨vx, hx, hq⟩ := wv_iff hq
    obtain ⟨v, hK, hr⟩ := uop_sound (P := C.P) hq
    exact ⟨v, hK, fun w _ => by simp [Gives, execOp, hop, hk.ev hx, hr w]⟩
  | convert src dst x =>
    simp only [hop] at hq
    split at hq
    · rename_i d k hd hu
      obtain ⟨vx, hx, hq⟩ := wv_iff hq
      obtain ⟨k', n, rfl, hK⟩ := onAny_iff hq
      exact ⟨_, hK, fun w _ => by simp [Gives, execOp, hop, hk.ev hx, convert, run_underlying hu, run_underlying hd, Conv.intToInt]⟩
    · exact hq.elim
  | makeInterface t x =>
    simp only [hop] at hq
    split at hq
    · rename_i el hu
      obtain ⟨vx, hx, hK⟩ := wv_iff hq
      exact ⟨_, hK, fun w _ => by simp [Gives, execOp, hop, hk.ev hx, Instr.makeInterface, run_underlying hu]⟩
    · exact hq.elim
  | makeFunc fn first captured =>
    simp only [hop] at hq
    have h1 := evs_iff hk _ _ hq
    have h2 := evs_iff hk _ _ h1
    exact ⟨_, h2, fun w _ => by simp only [Gives, execOp, hop, Instr.makeFunc, Sem.run_bind, Sem.run_pure, Result.andThen_ok, List.reverse_nil, List.nil_append, ← Array.toList_map]⟩
  | fieldAddr s x f =>
    simp only [hop] at hq
    obtain ⟨fd, hf, hq⟩ := onO_iff hq
    obtain ⟨hz, hq⟩ := ite_iff hq
    obtain ⟨i, hi, hsi, hne⟩ := szOk_iff hz
    obtain ⟨vx, hx, hq⟩ := wv_iff hq
    obtain ⟨p, rfl, hK⟩ := onPtr_iff hq
    unfold fieldOf at hf
    split at hf
    · rename_i fs hu
      refine ⟨_, hK, fun w _ => ?_⟩
      simp [Gives, execOp, hop, hk.ev hx, Instr.fieldAt, run_underlying hu, hf, Instr.sureAddr, fieldPlace, sizeOf, typeInfo, hi, hsi, hne]
    · cases hf
  | indexAddr t x ix =>
    simp only [hop] at hq
    split at hq
    · rename_i len el hu
      obtain ⟨hz, hq⟩ := ite_iff hq
      obtain ⟨i, hi, hsi, hne⟩ := szOk_iff hz
      obtain ⟨vx, hx, hq⟩ := wv_iff hq
      obtain ⟨vi, hxi, hq⟩ := wv_iff hq
      obtain ⟨p, rfl, hq⟩ := onPtr_iff hq
      obtain ⟨k, n, rfl, hn, hK⟩ := onAny_iff hq
      refine ⟨_, hK, fun w _ => ?_⟩
      simp [Gives, execOp, hop, hk.ev hx, hk.ev hxi, Instr.indexAt, asIntOf, run_underlying hu, Instr.sureAddr, hn, sizeOf, typeInfo, hi, hsi]
    · rename_i el hu
      obtain ⟨hz, hq⟩ := ite_iff hq
      obtain ⟨i, hi, hsi, hne⟩ := szOk_iff hz
      obtain ⟨vx, hx, hq⟩ := wv_iff hq
      obtain ⟨vi, hxi, hq⟩ := wv_iff hq
      obtain ⟨p, l, c, rfl, hq⟩ := onSl_iff hq
      obtain ⟨k, n, rfl, hn, hq⟩ := onAny_iff hq
      obtain ⟨p, rfl, hK⟩ := onO_iff hq
      refine ⟨_, hK, fun w _ => ?_⟩
      simp [Gives, execOp, hop, hk.ev hx, hk.ev hxi, Instr.indexAt, asIntOf, run_underlying hu, hn, sizeOf, typeInfo, hi, hsi]
    · exact hq.elim
  | extract x i =>
    simp only [hop] at hq
    obtain ⟨vx, hx, hq⟩ := wv_iff hq
    obtain ⟨vs, v, rfl, hv, hq⟩ := onTup_iff hq
    exact ⟨v, typed_iff hq, fun w _ => by simp [Gives, execOp, hop, hk.ev hx, Instr.extract, hv]⟩
  | load t x =>
    have hso : sortOf C o = .read := by simp [sortOf, hop]
    have one : ∀ {d : TypeDesc} {p : Addr} {v : Value}, C.P.underlying t = some d → (∀ fs, d ≠ .struct fs) → (∀ n el, d ≠ .array n el) → ev e x = some (.pointer (some p)) → cellH h p = some v → ∀ w : World, (sortOf C o = .pure ∨ Keep h w.heap) → Gives C a o v w := by
      intro d p v hu h1 h2 hx hc w hw
      have hw := hw.resolve_left (by simp [hso])
      have hl : w.cell? p = some v := hw.cell hc
      have hag : (isAgg t).run C.P w = .ok false w := by
        cases d <;> first | (exact absurd rfl (h1 _)) | (exact absurd rfl (h2 _ _)) | simp [isAgg, run_underlying hu]
      simp [Gives, execOp, hop, hk.ev hx, Instr.loadAt, Instr.sureAddr, loadVar, hag, hl]
    simp only [hop] at hq
    split at hq
    · rename_i fs hu
      obtain ⟨hz, hq⟩ := ite_iff hq
      obtain ⟨i, hi, hsi, hne⟩ := szOk_iff hz
      obtain ⟨vx, hx, hq⟩ := wv_iff hq
      obtain ⟨p, rfl, hq⟩ := onPtr_iff hq
      obtain ⟨vs, hr, hK⟩ := hq
      refine ⟨_, hK, fun w hw => ?_⟩
      have hl := run_loadCells_row (P := C.P) w ((hw.resolve_left (by simp [hso])).row hr)
      simp [Gives, execOp, hop, hk.ev hx, Instr.loadAt, Instr.sureAddr, loadVar, isAgg, run_underlying hu, sizeOf, typeInfo, hi, hsi, hl]
    · rename_i n el hu
      obtain ⟨hz, hq⟩ := ite_iff hq
      obtain ⟨i, hi, hsi, hne⟩ := szOk_iff hz
      obtain ⟨vx, hx, hq⟩ := wv_iff hq
      obtain ⟨p, rfl, hq⟩ := onPtr_iff hq
      obtain ⟨vs, hr, hK⟩ := hq
      refine ⟨_, hK, fun w hw => ?_⟩
      have hl := run_loadCells_row (P := C.P) w ((hw.resolve_left (by simp [hso])).row hr)
      simp [Gives, execOp, hop, hk.ev hx, Instr.loadAt, Instr.sureAddr, loadVar, isAgg, run_underlying hu, sizeOf, typeInfo, hi, hsi, hl]
    · rename_i k hu
      obtain ⟨vx, hx, hq⟩ := wv_iff hq
      obtain ⟨p, rfl, hq⟩ := onPtr_iff hq
      obtain ⟨n, hc, hK⟩ := hq
      exact ⟨_, hK, one hu (by simp) (by simp) hx hc⟩
    · rename_i hu
      obtain ⟨vx, hx, hq⟩ := wv_iff hq
      obtain ⟨p, rfl, hq⟩ := onPtr_iff hq
      obtain ⟨n, hc, hK⟩ := hq
      exact ⟨_, hK, one hu (by simp) (by simp) hx hc⟩
    · rename_i el hu
      obtain ⟨vx, hx, hq⟩ := wv_iff hq
      obtain ⟨p, rfl, hq⟩ := onPtr_iff hq
      obtain ⟨n, hc, hK⟩ := hq
      exact ⟨_, hK, one hu (by simp) (by simp) hx hc⟩
    · rename_i el hu
      obtain ⟨vx, hx, hq⟩ := wv_iff hq
      obtain ⟨p, rfl, hq⟩ := onPtr_iff hq
      obtain ⟨n, l, c, hc, hK⟩ := hq
      exact ⟨_, hK, one hu (by simp) (by simp) hx hc⟩
    · rename_i d h1 h2 _ _ _ _ hu
      obtain ⟨vx, hx, hq⟩ := wv_iff hq
      obtain ⟨p, rfl, hq⟩ := onPtr_iff hq
      obtain ⟨v, hc, hK⟩ := hq
      exact ⟨_, hK, one hu (fun fs e => h1 fs e) (fun n el e => h2 n el e) hx hc⟩
    · exact hq.elim
  | slice t x lo hi mx =>
    cases mx with
    | some m => simp [hop] at hq
    | none =>
    simp only [hop] at hq
    split at hq
    · rename_i n el hu
      obtain ⟨hz, hq⟩ := ite_iff' hq
      obtain ⟨i, hi', hsi, hne⟩ := szOk_iff (by simpa using hz)
      obtain ⟨vx, hx, hq⟩ := wv_iff hq
      have hq1 := evO_iff hk (evO_iff hk hq)
      obtain ⟨p, rfl, hq2⟩ := onPtr_iff hq1
      obtain ⟨hh, l, hK, hr⟩ := sl_sound (P := C.P) (isS := false) (K := fun hh l => K (.slice (slAddr (some p) l n (szOf C.P el)) (hh - l) (n - l))) hq2 rfl
      refine ⟨_, hK, fun w _ => ?_⟩
      simp only [Gives, execOp, hop, hk.ev hx, Instr.sliceAt, Instr.sureAddr, Sem.run_bind, run_underlying hu, Result.andThen_ok, Sem.run_pure, Option.map_none, hr w, sizeOf, typeInfo, run_program, hi', hsi]
      unfold slAddr
      split <;> rfl
    · rename_i el hu
      obtain ⟨hz, hq⟩ := ite_iff' hq
      obtain ⟨i, hi', hsi, hne⟩ := szOk_iff (by simpa using hz)
      obtain ⟨vx, hx, hq⟩ := wv_iff hq
      have hq1 := evO_iff hk (evO_iff hk hq)
      obtain ⟨p, len, cap, rfl, hq2⟩ := onSl_iff hq1
      obtain ⟨hh, l, hK, hr⟩ := sl_sound (P := C.P) (isS := true) (K := fun hh l => K (.slice (slAddr p l cap (szOf C.P el)) (hh - l) (cap - l))) hq2 rfl
      refine ⟨_, hK, fun w _ => ?_⟩
      simp only [Gives, execOp, hop, hk.ev hx, Instr.sliceAt, Instr.slice, Sem.run_bind, run_underlying hu, Result.andThen_ok, Sem.run_pure, Option.map_none, hr w, sizeOf, typeInfo, run_program, hi', hsi]
      rfl
    · exact hq.elim
  | build t parts =>
    simp only [hop] at hq
    split at hq
    · rename_i fs hu
      obtain ⟨hz, hq⟩ := ite_iff hq
      simp only [Bool.and_eq_true, List.all_eq_true] at hz
      obtain ⟨i, z, hi, hz1, hsz, hby, hzc⟩ := hasZero_iff hz.1
      have hq := evs_iff hk _ _ hq
      obtain ⟨pl, hpl, hq⟩ := onO_iff hq
      obtain ⟨cs, hcs, hK⟩ := onO_iff hq
      refine ⟨_, hK, fun w _ => ?_⟩
      have hpm : fs.toList.mapM (fun f => (C.P.info? f.type).map fun i => (f.offset, i.size)) = some (fs.toList.map fun f => (f.offset, szOf C.P f.type)) := by
        have : ∀ l : List Field, (∀ f ∈ l, szOk C.P f.type = true) → l.mapM (fun f => (C.P.info? f.type).map fun i => (f.offset, i.size)) = some (l.map fun f => (f.offset, szOf C.P f.type)) := by
          intro l
          induction l with
          | nil => intro _; rfl
          | cons f l ih =>
            intro hl
            obtain ⟨i, hi, hs, _⟩ := szOk_iff (hl f (by simp))
            simp [List.mapM_cons, hi, hs, ih (fun g hg => hl g (by simp [hg]))]
        exact this _ hz.2
      have hparts : (parts.map fun x => (x.1, a.eval x.2)).toList = ((parts.toList.map (·.1)).zip ([].reverse ++ (parts.toList.map (·.2)).map a.eval)) := by
        rw [Array.toList_map]
        generalize parts.toList = l
        induction l with
        | nil => rfl
        | cons x l ih => simpa using ih
      have hb : C.P.built t (parts.map fun x => (x.1, a.eval x.2)).toList = some cs.toArray := by
        have hfill := (fplaces_iff hpl).2 w (fs.toList.map fun f => (f.offset, szOf C.P f.type)).toArray (fun j f hf _ => by
          have : fs.toList[j]? = some f := by simpa using hf
          simp [this]) (zeroOf C.P t).toList cs hcs
        rw [hparts]
        simp only [Program.built, hi, hu, hz1, hpm, hzc]
        simpa using hfill
      have := run_build w t _ _ hb
      simp only [Gives, execOp, hop, Sem.run_bind, Sem.run_pure]
      rw [show (parts.map fun x => match x with | (i, x) => (i, a.eval x)) = parts.map fun x => (x.1, a.eval x.2) from rfl, this]
      rfl
    · exact hq.elim
  | call c =>
    obtain ⟨callee, args, argTypes⟩ := c
    cases callee with
    | value f => simp [hop] at hq
    | invoke r m => simp [hop] at hq
    | builtin b =>
      cases b <;> try (simp [hop] at hq; done)
      case len =>
        simp only [hop] at hq
        split at hq
        · rename_i t x ht hx
          split at hq
          · rename_i el hu
            obtain ⟨vx, hx', hq⟩ := wv_iff hq
            obtain ⟨p, l, c, rfl, hK⟩ := onSl_iff hq
            have e1 : argTypes = #[t] := by rw [← Array.toArray_toList (xs := argTypes), ht]
            have e2 : args = #[x] := by rw [← Array.toArray_toList (xs := args), hx]
            exact ⟨_, hK, fun w _ => by simp [Gives, execOp, hop, resolve, invoke, builtin, e1, e2, hk.ev hx', Builtin.len_, run_underlying hu, goInt]⟩
          · exact hq.elim
        · exact hq.elim
      case min =>
        simp only [hop] at hq
        split at hq
        · rename_i x y hxy
          obtain ⟨vx, hx, hq⟩ := wv_iff hq
          obtain ⟨vy, hy, hq⟩ := wv_iff hq
          obtain ⟨p, rfl, hq2⟩ := onI_iff hq
          obtain ⟨q, rfl, hK⟩ := onI_iff hq2
          have e2 : args = #[x, y] := by rw [← Array.toArray_toList (xs := args), hxy]
          exact ⟨_, hK, fun w _ => by simp [Gives, execOp, hop, resolve, invoke, builtin, e2, hk.ev hx, hk.ev hy, Builtin.min_, Builtin.min2]⟩
        · exact hq.elim
      case max =>
        simp only [hop] at hq
        split at hq
        · rename_i x y hxy
          obtain ⟨vx, hx, hq⟩ := wv_iff hq
          obtain ⟨vy, hy, hq⟩ := wv_iff hq
          obtain ⟨p, rfl, hq2⟩ := onI_iff hq
          obtain ⟨q, rfl, hK⟩ := onI_iff hq2
          have e2 : args = #[x, y] := by rw [← Array.toArray_toList (xs := args), hxy]
          exact ⟨_, hK, fun w _ => by simp [Gives, execOp, hop, resolve, invoke, builtin, e2, hk.ev hx, hk.ev hy, Builtin.max_, Builtin.max2]⟩
        · exact hq.elim
  | _ => simp [hop] at hq

end
end Am
end Go.Proofs.Ytfijmoofdafoiaa
