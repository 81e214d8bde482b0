/-
  What the small form says of an operation that acts holds of the model's own run of it.
-/
import Derived.Test.YtfijmoofdafoiaaAmB
set_option linter.unusedSimpArgs false
set_option linter.unusedVariables false
namespace Go.Proofs.Ytfijmoofdafoiaa
open Go
namespace Am

theorem Stay.refl (w : World) : Stay w w := ⟨rfl, rfl, rfl⟩
theorem Stay.trans {a b c : World} (h : Stay a b) (k : Stay b c) : Stay a c := ⟨k.1.trans h.1, k.2.1.trans h.2.1, k.2.2.trans h.2.2⟩
theorem Stay.drew (w : World) : Stay w w.drew := ⟨rfl, rfl, rfl⟩

theorem setRow_heap_eq (w : World) (g : Nat) (cs : Array Value) : (w.setRow g cs).heap = setB w.heap g cs := rfl
theorem Stay.setRow (w : World) (g : Nat) (cs : Array Value) : Stay w (w.setRow g cs) := ⟨rfl, rfl, rfl⟩
theorem Stay.push (w : World) (o : Obj) : Stay w { w with heap := w.heap.push o } := ⟨rfl, rfl, rfl⟩

theorem st_run {P : Program} {w : World} {a : Addr} {vs : Array Value} {K : Hp → Prop} (h : st w.heap a vs K) : ∃ w', (storeCells a vs.toList).run P w = .ok () w' ∧ Stay w w' ∧ K w'.heap := by
  obtain ⟨c, e, hb, hs, hl, h1, hK⟩ := h
  obtain ⟨b, o, s⟩ := a
  cases hs
  have := run_storeCells_at P b o e vs.toList 0 c w hb (by simpa using hl) h1
  exact ⟨_, this, Stay.setRow _ _ _, by simpa [setRow_heap_eq, splice] using hK⟩

theorem fill_fillL {place : Nat → Option (Nat × Nat)} {O N : Nat → Nat} : ∀ (ps : List (Nat × Value)) (cells cs : List Value), (∀ p ∈ ps, place p.1 = some (O p.1, N p.1)) →
    fillL cells (ps.map fun p => (O p.1, N p.1, p.2)) = some cs → Instr.fill place cells.toArray ps = some cs.toArray
  | [], cells, cs, _, h => by simp [fillL] at h; subst h; simp [Instr.fill]
  | (i, v) :: ps, cells, cs, hp, h => by
    simp only [List.map_cons, fillL] at h
    split at h
    · rename_i hc
      obtain ⟨e1, e2⟩ := hc
      have hpl := hp (i, v) (by simp)
      simp only [Instr.fill, hpl]
      rw [if_neg (by simp [e1]; omega)]
      have ih := fill_fillL ps _ cs (fun p hm => hp p (by simp [hm])) h
      have hfold : (v.cells.zipIdx.foldl (fun cs (x : Value × Nat) => cs.setIfInBounds (O i + x.2) x.1) cells.toArray) = (cells.take (O i) ++ v.cells.toList ++ cells.drop (O i + N i)).toArray := by
        rw [← e1] at e2 ⊢
        have gen : ∀ (vs : List Value) (o k : Nat) (cs : List Value), o + k + vs.length ≤ cs.length →
            (vs.zipIdx k).foldl (fun (cs : Array Value) (x : Value × Nat) => cs.setIfInBounds (o + x.2) x.1) cs.toArray = (cs.take (o + k) ++ vs ++ cs.drop (o + k + vs.length)).toArray := by
          intro vs
          induction vs with
          | nil => intro o k cs hle; simp
          | cons u us ihu =>
            intro o k cs hle
            simp only [List.zipIdx_cons, List.foldl_cons, List.length_cons] at *
            rw [show (cs.toArray.setIfInBounds (o + k) u) = (cs.set (o + k) u).toArray by simp]
            rw [ihu o (k + 1) (cs.set (o + k) u) (by simp; omega)]
            congr 1
            have := list_seg_step cs (o + k) u us (by omega)
            simpa [Nat.add_assoc] using this
        have := gen v.cells.toList (O i) 0 cells (by simpa using e2)
        rw [← Array.foldl_toList]
        simpa using this
      rw [hfold]
      exact ih
    · cases h

/-- What is asked of the world behind an operation. -/
def After (a : Act) (o : Oper) (w : World) (K : Value → Hp → Prop) (a' : Act) (w' : World) : Prop := ∃ v, a' = a.put o.dst v ∧ Stay w w' ∧ K v w'.heap

theorem wp_value {P : Program} {a : Act} {o : Oper} {w w' : World} {K : Value → Hp → Prop} {Q : Exit → Act → World → Prop} {v : Value}
    (hr : (execOp a.eval o).run P w = .ok (.value v) w') (hs : Stay w w') (hK : K v w'.heap) : o.wp P a w (After a o w K) Q := by
  unfold Oper.wp
  rw [hr]
  exact ⟨v, rfl, hs, hK⟩

theorem wp_skipped {P : Program} {a : Act} {o : Oper} {w w' : World} {K : Value → Hp → Prop} {Q : Exit → Act → World → Prop}
    (hr : (execOp a.eval o).run P w = .ok .skip w') (hs : Stay w w') (hK : K undef w'.heap) : o.wp P a w (After a o w K) Q := by
  unfold Oper.wp
  rw [hr]
  exact ⟨undef, rfl, hs, hK⟩

theorem wp_entered {P : Program} {a : Act} {o : Oper} {w : World} {K : Value → Hp → Prop} {Q : Exit → Act → World → Prop} {f : FuncId} {args : Array Value} {h : Hp} (hw : w.heap = h)
    (hr : (execOp a.eval o).run P w = .ok (.enter f args) w) (hK : Run P f args h K) : o.wp P a w (After a o w K) Q := by
  unfold Oper.wp
  rw [hr]
  refine (hK w hw).mono ?_
  rintro e w' ⟨v, rfl, hs, hk⟩
  exact ⟨v, rfl, hs, hk⟩

theorem run_firstCells_row {P : Program} (w : World) {size n l c : Nat} {xb : Option Addr} {new : Array Value}
    (h : match xb with | none => new = #[] | some a => rowH w.heap a (n * size) = some new) : (Builtin.firstCells size n (.slice xb l c)).run P w = .ok new w := by
  cases xb with
  | none => simp only at h; subst h; simp [Builtin.firstCells]
  | some a => simp only at h; simp only [Builtin.firstCells]; exact run_loadCells_row w h

section
variable {C : Ctx} {e : Env} {a : Act} {h : Hp} {o : Oper}

theorem run_zero {P : Program} {t : TypeId} (w : World) {i : TypeInfo} {z : Value} (hi : P.info? t = some i) (hz : i.zero = some z) : (zeroValue t).run P w = .ok z w := by
  simp [zeroValue, typeInfo, hi, hz]
theorem run_info {P : Program} {t : TypeId} (w : World) {i : TypeInfo} (hi : P.info? t = some i) : (typeInfo t).run P w = .ok i w := by
  simp [typeInfo, hi]
theorem run_szOf {P : Program} {t : TypeId} (w : World) {i : TypeInfo} (hi : P.info? t = some i) (hs : i.size = szOf P t) : (sizeOf t).run P w = .ok (szOf P t) w := by
  simp [sizeOf, typeInfo, hi, hs]

theorem apnd_run {P : Program} {w : World} {t u ty elem : TypeId} {i : TypeInfo} {z : Value} {s x : Value} {K : Value → Hp → Prop} (ht : P.underlying t = some (.slice elem)) {el2 : TypeId} (hu : P.underlying u = some (.slice el2))
    (hi : P.info? elem = some i) (hz : i.zero = some z) (hsz : i.size = szOf P elem) (hby : i.bytes = byOf P elem) (hzc : z.cells = zeroOf P elem)
    (h : apnd elem (szOf P elem) (byOf P elem) (zeroOf P elem) s x w.heap K) :
    ∃ v w', (Builtin.append_ #[t, u] ty #[s, x]).run P w = .ok v w' ∧ Stay w w' ∧ K v w'.heap := by
  unfold apnd at h
  obtain ⟨base, len, cap, rfl, h'⟩ := onSl_iff h
  obtain ⟨xb, n, xc, rfl, new, hnew, h1, h2⟩ := onSl_iff h'
  by_cases hroom : len + n ≤ cap
  · have h1 := h1 hroom
    have hf : (Builtin.firstCells (szOf P elem) n (.slice xb n xc)).run P w = .ok new w := run_firstCells_row w (by
      cases xb with
      | none => exact hnew.1
      | some a => exact hnew)
    cases base with
    | none =>
      refine ⟨_, w, ?_, Stay.refl w, h1⟩
      simp [Builtin.append_, run_underlying ht, run_underlying hu, run_szOf w hi hsz, Builtin.lenOf, hroom, hf]
    | some b =>
      obtain ⟨w', hst, hs, hK⟩ := st_run (P := P) h1
      refine ⟨_, w', ?_, hs, hK⟩
      simp [Builtin.append_, run_underlying ht, run_underlying hu, run_szOf w hi hsz, Builtin.lenOf, hroom, hf, hst]
  · obtain ⟨⟨hfit, hb0⟩, old, hold, hK⟩ := h2 (by omega)
    have hf : (Builtin.firstCells (szOf P elem) n (.slice xb n xc)).run P w.drew = .ok new w.drew := run_firstCells_row w.drew (by
      cases xb with
      | none => exact hnew.1
      | some a => exact hnew)
    have ho : (Builtin.firstCells (szOf P elem) len (.slice base len cap)).run P w.drew = .ok old w.drew := run_firstCells_row w.drew (by
      cases base with
      | none => exact hold.1
      | some a => exact hold)
    have hfit' : ¬ (281474976710656 < Builtin.nextslicecap (len + n) cap * byOf P elem) := by
      have : Builtin.nextslicecap (len + n) cap * byOf P elem ≤ 281474976710656 := hfit
      omega
    refine ⟨.slice (some ⟨w.heap.size, 0, none⟩) (len + n) (grownCap w (len + n) cap elem), { w.drew with heap := w.drew.heap.push (.cells (old ++ new ++ Builtin.zeroCells z.cells (grownCap w (len + n) cap elem - (len + n))) elem) }, ?_, (Stay.drew w).trans (Stay.push _ _), ?_⟩
    · simp [Builtin.append_, run_underlying ht, run_underlying hu, run_szOf _ hi hsz, run_info _ hi, hby, hb0, Builtin.lenOf, hroom, hfit', Question.forced, hf, ho, run_zero _ hi hz, newRow, grownCap]
      try rfl
    · rw [hzc]
      exact hK _ (by unfold grownCap; simp [Question.cut])

theorem cpy_run {P : Program} {w : World} {t u ty elem : TypeId} {i : TypeInfo} {s x : Value} {K : Value → Hp → Prop} (ht : P.underlying t = some (.slice elem))
    (hi : P.info? elem = some i) (hsz : i.size = szOf P elem) (h : cpy (szOf P elem) s x w.heap K) :
    ∃ v w', (Builtin.copy_ #[t, u] ty #[s, x]).run P w = .ok v w' ∧ Stay w w' ∧ K v w'.heap := by
  unfold cpy at h
  obtain ⟨base, dl, dc, rfl, h'⟩ := onSl_iff h
  obtain ⟨sb, sl, sc, rfl, vs, hvs, h''⟩ := onSl_iff h'
  have hf : (Builtin.firstCells (szOf P elem) (Nat.min sl dl) (.slice sb sl sc)).run P w = .ok vs w := run_firstCells_row w hvs
  cases base with
  | none =>
    exact ⟨_, w, by simp [Builtin.copy_, run_underlying ht, run_szOf w hi hsz, Builtin.lenOf, hf, goInt], Stay.refl w, h''⟩
  | some b =>
    obtain ⟨w', hst, hs, hK⟩ := st_run (P := P) h''
    exact ⟨_, w', by simp [Builtin.copy_, run_underlying ht, run_szOf w hi hsz, Builtin.lenOf, hf, hst, goInt], hs, hK⟩

theorem mkSl_run {P : Program} {w : World} {t elem : TypeId} {i : TypeInfo} {z : Value} {l c : Value} {K : Value → Hp → Prop} (ht : P.underlying t = some (.slice elem))
    (hi : P.info? elem = some i) (hz : i.zero = some z) (hsz : i.size = szOf P elem) (hby : i.bytes = byOf P elem) (hzc : z.cells = zeroOf P elem)
    (h : mkSl elem (szOf P elem) (byOf P elem) (zeroOf P elem) l c w.heap K) :
    ∃ v w', (Instr.makeSlice t l c).run P w = .ok v w' ∧ Stay w w' ∧ K v w'.heap := by
  unfold mkSl at h
  obtain ⟨l, rfl, h'⟩ := onI_iff h
  obtain ⟨c, rfl, ⟨h0, h1, h2, h3⟩, hK⟩ := onI_iff h'
  have h2' : c ≤ 9223372036854775807 := h2
  have wl : IntKind.i64.wrap l = l := by rw [IntKind.wrap_i64]; omega
  have wc : IntKind.i64.wrap c = c := by rw [IntKind.wrap_i64]; omega
  have n1 : ¬ (c < 0) := by omega
  have n2 : ¬ ((byOf P elem : Int) * c > 2 ^ 48) := by
    have : (byOf P elem : Int) * c ≤ 2 ^ 48 := h3
    omega
  have n2' : ¬ (281474976710656 < (byOf P elem : Int) * c) := by simpa using n2
  have n3 : ¬ (l < 0) := by omega
  have n4 : ¬ (c < l) := by omega
  have hz0 : (if c.toNat * szOf P elem = 0 then pure #[] else do pure (← zeroValue elem).cells : Sem (Array Value)).run P w = .ok (if c.toNat * szOf P elem = 0 then #[] else zeroOf P elem) w := by
    split
    · rfl
    · simp [run_zero w hi hz, hzc]
  refine ⟨_, { w with heap := w.heap.push _ }, ?_, Stay.push _ _, hK⟩
  by_cases hn : c.toNat * szOf P elem = 0
  · simp [Instr.makeSlice, run_underlying ht, asInt, asIntOf, run_info w hi, hby, run_szOf w hi hsz, wl, wc, n1, n2', n3, n4, hn, newRow]
    congr 2
    rw [show Array.range 0 = #[] from rfl]
    exact Array.map_empty
  · simp [Instr.makeSlice, run_underlying ht, asInt, asIntOf, run_info w hi, hby, run_szOf w hi hsz, run_zero w hi hz, hzc, wl, wc, n1, n2', n3, n4, hn, newRow, zerosN]

theorem b2s_run {P : Program} {w : World} {v : Value} {K : ByteArray → Prop} (h : b2s w.heap v K) : ∃ s, K s ∧ (Conv.bytesToString v).run P w = .ok (.string s) w := by
  unfold b2s at h
  obtain ⟨b, n, c, rfl, h'⟩ := onSl_iff h
  cases b with
  | none => exact ⟨_, h', by simp [Conv.bytesToString]⟩
  | some p =>
    obtain ⟨bs, hl, hc, hK⟩ := h'
    refine ⟨_, hK, ?_⟩
    have hload := run_loadCells_list (P := P) w p (bs.map fun b => Value.int .u8 (b.toNat : Int)) (fun j v hj => by
      simp only [List.getElem?_map, Option.map_eq_some_iff] at hj
      obtain ⟨b, hb, rfl⟩ := hj
      exact hc j b hb)
    have := run_bytesToString (P := P) w p n c (bs.map fun b => (b.toNat : Int)) (by
      rw [List.map_map]
      simpa [hl, Function.comp_def] using hload)
    rw [this, foldl_push_bytes]
    congr 2
    simp [Function.comp_def, ByteArray.empty, ByteArray.emptyWithCapacity]
    rfl

theorem run_call_fn {C : Ctx} (hG : C.Good) {f : FuncId} (hf : C.ok.contains f = true) {a : Act} {o : Oper} {args : Array Operand} {argTypes : Array TypeId} (hop : o.op = .call { callee := .value (.func f), args, argTypes }) (w : World) :
    (execOp a.eval o).run C.P w = .ok (.enter f (args.map a.eval)) w := by
  have := hG.call f hf (args.map a.eval) w
  simp [execOp, hop, resolve, Act.eval, Deferred.ofValue, invoke]
  simpa [Act.eval] using this

/-- **An operation that acts does what its small form says.** -/
theorem aop_sound (hG : C.Good) {K : Value → Hp → Prop} {w : World} {Q : Exit → Act → World → Prop} (hk : Know e a) (hw : w.heap = h) (ha : aop C e h o K) : o.wp C.P a w (After a o w K) Q := by
  subst hw
  unfold aop at ha
  cases hop : o.op with
  | alloc t =>
    simp only [hop] at ha
    obtain ⟨hz, hK⟩ := ite_iff ha
    obtain ⟨i, z, hi, hz1, hsz, hby, hzc⟩ := hasZero_iff hz
    refine wp_value (w' := { w with heap := w.heap.push (.cells (zeroOf C.P t) t) }) ?_ (Stay.push _ _) hK
    simp [execOp, hop, Instr.alloc, run_zero w hi hz1, newVar, newRow, hzc]
  | box t x =>
    simp only [hop] at ha
    obtain ⟨v, hv, hK⟩ := wv_iff ha
    refine wp_value (w' := { w with heap := w.heap.push (.cells v.cells t) }) ?_ (Stay.push _ _) hK
    simp [execOp, hop, Instr.box, newVar, newRow, hk.ev hv]
  | buildSlice t n parts =>
    simp only [hop] at ha
    split at ha
    · rename_i el hu
      obtain ⟨hz, ha⟩ := ite_iff ha
      simp only [Bool.and_eq_true, Bool.not_eq_true', Nat.ble_eq] at hz
      obtain ⟨⟨hz, hne⟩, hle⟩ := hz
      have hne' : n * szOf C.P el ≠ 0 := fun e => by rw [e] at hne; simp at hne
      obtain ⟨i, z, hi, hz1, hsz, hby, hzc⟩ := hasZero_iff hz
      have ha := evs_iff hk _ _ ha
      obtain ⟨cs, hcs, hK⟩ := onO_iff ha
      refine wp_value (w' := { w with heap := w.heap.push (.cells cs.toArray el) }) ?_ (Stay.push _ _) hK
      have hparts : (((parts.toList.map (·.1)).zip ([].reverse ++ (parts.toList.map (·.2)).map a.eval)).map fun p => (p.1 * szOf C.P el, szOf C.P el, p.2)) = ((parts.map fun x => (x.1, a.eval x.2)).toList.map fun p => (p.1 * szOf C.P el, szOf C.P el, p.2)) := by
        rw [Array.toList_map]
        generalize parts.toList = l
        induction l with
        | nil => rfl
        | cons x l ih => simpa using ih
      rw [hparts] at hcs
      have hfill := fill_fillL (place := fun i => some (i * szOf C.P el, szOf C.P el)) (O := fun i => i * szOf C.P el) (N := fun _ => szOf C.P el) _ _ _ (fun _ _ => rfl) hcs
      have hbig : ¬ (16777216 < n * szOf C.P el) := by omega
      simp only [execOp, hop, Sem.run_bind, Sem.run_pure, Instr.buildSlice, run_underlying hu, Result.andThen_ok, run_szOf w hi hsz]
      rw [if_neg (by simpa using hbig)]
      rw [show (parts.map fun x => match x with | (i, x) => (i, a.eval x)) = parts.map fun x => (x.1, a.eval x.2) from rfl]
      rw [if_neg hne']
      simp only [Sem.run_bind, Sem.run_pure, run_zero w hi hz1, Result.andThen_ok, hzc]
      rw [show (Array.map (fun x => (zeroOf C.P el)[x % (zeroOf C.P el).size]!) (Array.range (n * szOf C.P el))) = (zerosN (zeroOf C.P el) (n * szOf C.P el)).toList.toArray by simp only [zerosN, Array.toArray_toList], hfill]
      simp [newRow]
    · exact ha.elim
  | store t x y =>
    simp only [hop] at ha
    obtain ⟨hz, ha⟩ := ite_iff' ha
    obtain ⟨i, hi, hsi, hne⟩ := szOk_iff (by simpa using hz)
    obtain ⟨vx, hx, ha⟩ := wv_iff ha
    obtain ⟨vy, hy, ha⟩ := wv_iff ha
    obtain ⟨p, rfl, ha⟩ := onPtr_iff ha
    obtain ⟨hs, ha⟩ := szIs_iff ha
    obtain ⟨w', hst, hstay, hK⟩ := st_run (P := C.P) ha
    refine wp_skipped (w' := w') ?_ hstay hK
    simp [execOp, hop, hk.ev hx, hk.ev hy, Instr.storeAt, Instr.sureAddr, storeVar, run_szOf w hi hsi, hs, hst]
  | makeSlice t l c =>
    simp only [hop] at ha
    split at ha
    · rename_i el hu
      obtain ⟨hz, ha⟩ := ite_iff ha
      obtain ⟨i, z, hi, hz1, hsz, hby, hzc⟩ := hasZero_iff hz
      obtain ⟨vl, hl, ha⟩ := wv_iff ha
      obtain ⟨vc, hc, ha⟩ := wv_iff ha
      obtain ⟨v, w', hr, hs, hK⟩ := mkSl_run hu hi hz1 hsz hby hzc ha
      refine wp_value (w' := w') ?_ hs hK
      simp [execOp, hop, hk.ev hl, hk.ev hc, hr]
    · exact ha.elim
  | convert src dst x =>
    simp only [hop] at ha
    split at ha
    · rename_i el hs hd
      split at ha
      · rename_i he
        obtain ⟨vx, hx, ha⟩ := wv_iff ha
        obtain ⟨s, hK, hr⟩ := b2s_run (P := C.P) ha
        refine wp_value (w' := w) ?_ (Stay.refl w) hK
        unfold b2s at ha
        obtain ⟨b, n, c, rfl, _⟩ := onSl_iff ha
        simp [execOp, hop, hk.ev hx, run_convert_bytes_string w src dst el b n c hs he hd, hr]
      · exact ha.elim
    · exact ha.elim
  | call c =>
    obtain ⟨callee, args, argTypes⟩ := c
    cases callee with
    | builtin b =>
      cases b <;> try (simp [hop] at ha; done)
      case append =>
        simp only [hop] at ha
        split at ha
        · rename_i t u s x ht hx
          split at ha
          · rename_i el el2 hu1 hu2
            obtain ⟨hz, ha⟩ := ite_iff ha
            obtain ⟨i, z, hi, hz1, hsz, hby, hzc⟩ := hasZero_iff hz
            obtain ⟨vs, hs, ha⟩ := wv_iff ha
            obtain ⟨vx, hx', ha⟩ := wv_iff ha
            have e1 : argTypes = #[t, u] := by rw [← Array.toArray_toList (xs := argTypes), ht]
            have e2 : args = #[s, x] := by rw [← Array.toArray_toList (xs := args), hx]
            obtain ⟨v, w', hr, hst, hK⟩ := apnd_run (ty := o.type) hu1 hu2 hi hz1 hsz hby hzc ha
            refine wp_value (w' := w') ?_ hst hK
            simp [execOp, hop, resolve, invoke, builtin, e1, e2, hk.ev hs, hk.ev hx', hr]
          · exact ha.elim
        · exact ha.elim
      case copy =>
        simp only [hop] at ha
        split at ha
        · rename_i t u s x ht hx
          split at ha
          · rename_i el hu1
            obtain ⟨hz, ha⟩ := ite_iff' ha
            obtain ⟨i, hi, hsi, hne⟩ := szOk_iff (by simpa using hz)
            obtain ⟨vs, hs, ha⟩ := wv_iff ha
            obtain ⟨vx, hx', ha⟩ := wv_iff ha
            have e1 : argTypes = #[t, u] := by rw [← Array.toArray_toList (xs := argTypes), ht]
            have e2 : args = #[s, x] := by rw [← Array.toArray_toList (xs := args), hx]
            obtain ⟨v, w', hr, hst, hK⟩ := cpy_run (u := u) (ty := o.type) hu1 hi hsi ha
            refine wp_value (w' := w') ?_ hst hK
            simp [execOp, hop, resolve, invoke, builtin, e1, e2, hk.ev hs, hk.ev hx', hr]
          · exact ha.elim
        · exact ha.elim
    | value f =>
      cases f with
      | func f =>
        simp only [hop] at ha
        obtain ⟨hf, ha⟩ := ite_iff ha
        have ha := evs_iff hk _ _ ha
        refine wp_entered (f := f) (args := args.map a.eval) rfl (run_call_fn hG hf hop w) ?_
        intro w0 hw0
        have := ha w0 hw0
        simp only [List.reverse_nil, List.nil_append, ← Array.toList_map] at this
        refine this.mono ?_
        rintro ex w' ⟨v, hv, hs, hK⟩
        exact ⟨v, hv, hs, typed_iff hK⟩
      | tmp t =>
        simp only [hop] at ha
        obtain ⟨vf, hf, ha⟩ := wv_iff ha
        have ha := evs_iff hk _ _ ha
        unfold callV at ha
        split at ha
        · rename_i f first captured _
          obtain ⟨hok, ha⟩ := ite_iff ha
          have he : a.eval (.tmp t) = .func (.func f) first captured := hk.ev (x := .tmp t) hf
          refine wp_entered (f := f) (args := first ++ args.map a.eval ++ captured) rfl ?_ ?_
          · have := hG.call f hok (first ++ args.map a.eval ++ captured) w
            simp only [execOp, hop, resolve, he, Deferred.ofValue, invoke, Sem.run_bind, Sem.run_pure, Result.andThen_ok]
            exact this
          · intro w0 hw0
            have := ha w0 hw0
            simp only [List.reverse_nil, List.nil_append, ← Array.toList_map] at this
            refine this.mono ?_
            rintro ex w' ⟨v, hv, hs, hK⟩
            exact ⟨v, hv, hs, typed_iff hK⟩
        · exact ha.elim
      | const v => simp [hop] at ha
      | «global» g => simp [hop] at ha
    | invoke r m =>
      simp only [hop] at ha
      obtain ⟨vr, hr, ha⟩ := wv_iff ha
      have ha := evs_iff hk _ _ ha
      unfold invk at ha
      split at ha
      · rename_i t x _
        obtain ⟨f, hf, ha⟩ := onO_iff ha
        obtain ⟨hok, ha⟩ := ite_iff ha
        unfold methOf at hf
        obtain ⟨mm, hfind, hmf⟩ := Option.map_eq_some_iff.1 hf
        have hmem := List.mem_of_find?_eq_some hfind
        have hp := List.find?_some hfind
        simp only [Bool.and_eq_true, beq_iff_eq] at hp
        have ht : mm.1 = t := Nat.eq_of_beq_eq_true hp.1
        have hm := hG.meth t m f (by obtain ⟨m1, m2, m3⟩ := mm; simp only at ht hp hmf; rw [← ht, ← hp.2, ← hmf]; exact hmem) x w
        have he : a.eval r = .iface t x := hk.ev hr
        refine wp_entered (f := f) (args := #[x] ++ args.map a.eval) rfl ?_ ?_
        · have hc := hG.call f hok (#[x] ++ args.map a.eval) w
          simp only [execOp, hop, resolve, Sem.run_bind, Sem.run_pure, Result.andThen_ok, he]
          generalize args.map a.eval = L at hc
          have hex : (#[Value.iface t x] ++ L).extract 1 (#[Value.iface t x] ++ L).size = L := by
            apply Array.ext'
            simp [List.take_of_length_le]
          have h0 : (#[Value.iface t x] ++ L)[0]? = some (.iface t x) := by
            rw [Array.getElem?_append_left (by simp)]; rfl
          have hinv : (invoke (.fn (.method m) #[]) (#[Value.iface t x] ++ L)).run C.P w = .ok (.enter f (#[x] ++ L)) w := by
            simp only [invoke, h0, hex, callMethod, Sem.run_bind, run_program, Result.andThen_ok, hm]
            exact hc
          exact hinv
        · intro w0 hw0
          have := ha w0 hw0
          simp only [List.reverse_nil, List.nil_append, ← Array.toList_map] at this
          refine this.mono ?_
          rintro ex w' ⟨v, hv, hs, hK⟩
          exact ⟨v, hv, hs, typed_iff hK⟩
      · exact ha.elim
  | _ => simp [hop] at ha

end
end Am
end Go.Proofs.Ytfijmoofdafoiaa
