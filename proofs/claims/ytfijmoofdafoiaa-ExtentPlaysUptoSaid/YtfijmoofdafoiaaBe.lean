/-
  The reference's table: claims, drops, the list; reads, writes, flushes.
-/
import Derived.Test.YtfijmoofdafoiaaBd
set_option linter.unusedSimpArgs false
set_option linter.unusedVariables false
set_option maxRecDepth 100000
namespace Go.Proofs.Ytfijmoofdafoiaa
open Go Go.RowKit
namespace Am

variable {T T' : Nat → Prop} {h h' h'' : Hp} {F F' FD : Nat → Prop} {s s' : DSt} {f f' : Nat → Option ExtS} {K : Value → Hp → Prop}
variable {r t m m' md : Nat} {P P' : Option Nat} {pc pc' : Nat} {cl cl' : List ExtS}

theorem Buf.oP {sz l c : Nat} {p : Option Addr} {xs : List Value} {h0 : Hp} (hb : Buf h sz p l c xs) (hf : Fresh h0 p) : ∃ P' : Option Nat, p = oP P' ∧ (P' = none ∨ ∃ b, P' = some b ∧ h0.size ≤ b) := by
  cases p with
  | none => exact ⟨none, rfl, .inl rfl⟩
  | some a => obtain ⟨b, cs, rfl, -⟩ := hb; exact ⟨some b, rfl, .inr ⟨b, rfl, hf _ rfl⟩⟩

/-! ### New -/

theorem rtnew_spec (k : ∀ h', Only (fun _ => False) h h' → RTabAt h' (fun b => h.size ≤ b) h.size r 0 (fun _ => none) → h'.size = h.size + 1 → K (.pointer (some ⟨h.size, 0, none⟩)) h') : Run tc.P 29 #[.pointer (some ⟨r, 0, none⟩)] h K := by
  apply L29_run; unfold L29
  refine ⟨.inr rfl, bsel_b (fun e => by cases e) fun _ => ?_⟩
  have hf : fillL (zeroOf tc.P 100).toList [(1, 1, (.pointer (some ⟨r, 0, none⟩)))] = some [.slice none 0 0, .pointer (some ⟨r, 0, none⟩)] := by rw [z100]; rfl
  rw [hf]
  simp only [onO]
  exact k _ ((Only.refl _ _).push _) ⟨none, 0, [], ⟨Blk.new _ _ _, Nat.le_refl _, fun b e => (by cases e), Buf.nil _ _⟩, ⟨fun n _ => rfl, fun x hx => (List.not_mem_nil hx).elim, List.nodup_nil, fun x hx => (List.not_mem_nil hx).elim, Nat.le_refl _⟩⟩ (by simp)

/-! ### Drop -/

theorem er_step {I k : Nat} {e : ExtS} (hI : cl[I]? = some e) (hne : I ≠ k) : (cl.take (I + 1)).eraseIdx k = (cl.take I).eraseIdx k ++ [e] := by
  have hl := (List.getElem?_eq_some_iff.1 hI).1
  have ht : (cl.take I).length = I := by rw [List.length_take]; omega
  rw [List.take_add_one, hI]
  show (cl.take I ++ [e]).eraseIdx k = _
  rcases Nat.lt_or_ge k I with h | h
  · rw [List.eraseIdx_append_of_lt_length (by omega)]
  · rw [List.eraseIdx_of_length_le (by rw [List.length_append, ht]; simp; omega), List.eraseIdx_of_length_le (by omega)]
theorem er_skip {I : Nat} {e : ExtS} (hI : cl[I]? = some e) : (cl.take (I + 1)).eraseIdx I = (cl.take I).eraseIdx I := by
  have hl := (List.getElem?_eq_some_iff.1 hI).1
  have ht : (cl.take I).length = I := by rw [List.length_take]; omega
  rw [List.take_add_one, hI]
  show (cl.take I ++ [e]).eraseIdx I = _
  rw [List.eraseIdx_append_of_length_le (by omega), ht, Nat.sub_self, List.eraseIdx_of_length_le (l := cl.take I) (by omega)]
  simp

theorem rdrop_spec {n : Int} (hd : RTabAt h F t r m f) (hm : m ≤ 100000000) (k : ∀ h', Only F h h' → RTabAt h' (Gr F h) t r m (dropF f n).2 → K (.tuple #[.bool (dropF f n).1.1, .int .i64 (dropF f n).1.2]) h') :
    Run tc.P 63 #[.pointer (some ⟨t, 0, none⟩), .int .i64 n] h K := by
  apply L63_run; unfold L63
  obtain ⟨P, pc, cl, hb, hr⟩ := hd
  have hlen := hr.len
  refine rat_spec hb (by omega) ?_
  refine onI_of ?_
  have hg := hr.getR n
  rcases atL_cases n cl 0 with ⟨h1, h2⟩ | ⟨i, x, h1, h2, h3, h4⟩
  · have e : dropF f n = ((false, 100), f) := by unfold dropF; rw [hg, h2]
    rw [h1]; rw [e] at k
    exact bsel_dec (fun _ => k h (Only.refl _ _) ⟨P, pc, cl, hb.mono fun b _ hx => .inl hx, hr⟩) fun e => absurd (by decide) e
  rw [h1, Nat.zero_add]
  refine bsel_dec (fun e => by omega) fun _ => ?_
  simp only [onPtr, add_mk, Nat.zero_add]
  obtain ⟨b, cs, hP, hbk, ha, hsz⟩ := hb.row h2
  have hil := (List.getElem?_eq_some_iff.1 h2).1
  have hh := hr.hol x (List.mem_of_getElem? h2)
  have hoP : Am.oP P = some ⟨b, 0, none⟩ := by rw [hP]; rfl
  have hw : IntKind.i64.wrap (x.holds - 1) = x.holds - 1 := w64 (by omega) (by omega)
  refine ldS_at hb.blk rfl ⟨⟨by omega, by omega⟩, ?_⟩
  rw [hoP]
  simp only [onO, add_mk, Nat.zero_add, Int.toNat_natCast]
  refine ldI_at hbk (ha 2 _ rfl) (bsel_dec (fun h5 => ?_) fun h5 => ?_)
  · have e : dropF f n = ((false, 0), upd f n.toNat (some { x with holds := IntKind.i64.wrap (x.holds - 1) })) := by
      unfold dropF; rw [hg, h4]; simp only; rw [if_neg (by rw [hw]; omega)]
    rw [e] at k
    refine ldS_at hb.blk rfl (ldS_at hb.blk rfl ⟨⟨by omega, by omega⟩, ?_⟩)
    rw [hoP]
    simp only [onO, add_mk, Nat.zero_add]
    refine ldI_at hbk (ha 2 _ rfl) ⟨⟨by omega, by omega⟩, ?_⟩
    refine st_at hbk (by simp only [List.size_toArray, List.length_cons, List.length_nil]; omega) (one_ok _ rfl) ?_
    refine k _ ((Only.refl _ _).set (.inl (hb.fp b hP).1)) ⟨P, pc, _, (hb.setE h2 hP hbk).mono fun b _ hx => .inl hx, ?_⟩
    have := hr.set (m' := m) (y := { x with holds := IntKind.i64.wrap (x.holds - 1) }) h2 rfl (by show 1 ≤ IntKind.i64.wrap (x.holds - 1) ∧ IntKind.i64.wrap (x.holds - 1) ≤ _; rw [hw]; omega) (by omega)
    rw [show x.num.toNat = n.toNat from by rw [h3]] at this
    exact this
  · have e : dropF f n = ((true, 0), upd f n.toNat none) := by
      unfold dropF; rw [hg, h4]; simp only; rw [if_pos (by rw [hw]; omega)]
    rw [e] at k
    refine ⟨fun st h' => ∃ I : Nat, st.2.1 = (I : Int) ∧ I ≤ cl.length ∧ st.1.2.1 = ((cl.take I).eraseIdx i).length ∧ Only (fun _ => False) h h' ∧ Buf h' 3 st.1.1 ((cl.take I).eraseIdx i).length st.1.2.2 (((cl.take I).eraseIdx i).flatMap extV) ∧ Fresh h st.1.1, fun st _ => ((cl.length : Int) - st.2.1).toNat,
      ⟨0, rfl, Nat.zero_le _, rfl, Only.refl _ _, Buf.nil _ _, fun a ha => (by cases ha)⟩, ?_⟩
    rintro ⟨⟨p, l, c⟩, j, ⟨⟩⟩ h' ⟨I, hi, hI, hl, ho, hbuf, hfr⟩
    simp only at hi hl hbuf hfr ⊢
    subst hi hl
    have hb' := hb.only ho fun _ _ => id
    refine ldS_at hb'.blk rfl (bsel_dec (fun h0 => ?_) fun h0 => ?_)
    · have hI2 : I < cl.length := by omega
      have hIe : cl[I]? = some (cl[I]'hI2) := List.getElem?_eq_getElem hI2
      generalize cl[I]'hI2 = e at *
      refine bsel_ndec (fun h6 => ?_) fun h6 => ?_
      · have hst := er_step (k := i) hIe (by omega)
        obtain ⟨b2, cs2, hP2, hbk2, ha2, hsz2⟩ := hb'.row hIe
        rw [hP] at hP2; cases hP2
        refine ldS_at hb'.blk rfl ⟨⟨by omega, h0⟩, ?_⟩
        rw [hoP]
        simp only [onO, add_mk, Nat.zero_add]
        refine ldR_at hbk2 ha2 rfl hsz2 ?_
        have hf2 := fill3 (t := 0) (z := zeroOf tc.P 49) (cs := (extV e).toArray) (n := 3) (by rw [z49]; rfl) (by decide) rfl
        rw [hf2]
        simp only [onO]
        have ho4 : Only (fun _ => False) h' (h'.push (.cells (extV e).toArray 49)) := (Only.refl _ _).push _
        have hnew := Blk.new h' (extV e).toArray 49
        have hel : ((cl.take I).eraseIdx i).length ≤ cl.length := Nat.le_trans (List.eraseIdx_sublist _ _).length_le (by rw [List.length_take]; omega)
        refine apnd_buf (by rw [z49]; rfl) (hbuf.only ho4 fun _ _ => id) (ys := extV e) ⟨_, _, _, rfl, hnew, At.all _, by simp⟩ rfl (by decide) (extV_one _) (by omega) (by decide) fun p' cap' h5 ho5 hb5 hp5 => ?_
        simp only [onSl]
        refine ⟨⟨I + 1, ?_, hI2, ?_, (ho.trans ho4 fun _ _ x => x).trans ho5 fun b' hb' e => by have := hfr _ e; simp only at this; omega, ?_, ?_⟩, ?_⟩
        · rw [w64 (by omega) (by omega)]; rfl
        · rw [hst, List.length_append]; rfl
        · rw [hst, List.length_append, List.flatMap_append]; simpa using hb5
        · rcases hp5 with rfl | ⟨b', rfl, hb'⟩
          · exact hfr
          · intro a ha; injection ha with ha; subst ha; have := ho.1; have := ho4.1; exact by show h.size ≤ b'; omega
        · rw [w64 (by omega) (by omega)]; omega
      · have hIi : I = i := by omega
        subst hIi
        have hsk := er_skip hIe
        refine ⟨⟨I + 1, ?_, hI2, ?_, ho, ?_, hfr⟩, ?_⟩
        · rw [w64 (by omega) (by omega)]; rfl
        · rw [hsk]
        · rw [hsk]; exact hbuf
        · rw [w64 (by omega) (by omega)]; omega
    · have hIw : I = cl.length := by omega
      subst hIw
      rw [List.take_length] at hbuf ⊢
      obtain ⟨P', rfl, hP'⟩ := hbuf.oP hfr
      have hset := hb.setP (ho.mono fun _ _ x => x.elim) hbuf (.inr hP')
      refine st_at hb'.blk (by simp) (one_ok _ rfl) ?_
      refine k _ ((ho.mono fun _ _ x => x.elim : Only F h h').set (.inl hb.ft)) ⟨P', c, _, hset, ?_⟩
      have := hr.erase h2
      rw [show x.num.toNat = n.toNat from by rw [h3]] at this
      exact this

/-! ### List -/

theorem heldGo_succ (f : Nat → Option ExtS) : ∀ m k, heldGo f (m + 1) k = heldGo f m k ++ (match f (k + m) with | some x => [(k + m, x)] | none => []) := by
  intro m
  induction m with
  | zero => intro k; simp only [heldGo, Nat.add_zero, List.nil_append]; cases f k <;> rfl
  | succ m ih =>
    intro k
    have e : k + (m + 1) = (k + 1) + m := by omega
    rw [e]
    have h1 : heldGo f (m + 1 + 1) k = (match f k with | some x => (k, x) :: heldGo f (m + 1) (k + 1) | none => heldGo f (m + 1) (k + 1)) := rfl
    have h2 : heldGo f (m + 1) k = (match f k with | some x => (k, x) :: heldGo f m (k + 1) | none => heldGo f m (k + 1)) := rfl
    rw [h1, h2, ih (k + 1)]
    cases f k <;> rfl

theorem rlist_spec (hd : RTabAt h F t r m f) (hm : m ≤ 100000000) (k : ∀ h' p cap, Only (fun _ => False) h h' → Buf h' 3 p (heldFrom f 0).length cap (flatX (heldFrom f 0)) → Fresh h p → K (.slice p (heldFrom f 0).length cap) h') :
    Run tc.P 65 #[.pointer (some ⟨t, 0, none⟩)] h K := by
  apply L65_run; unfold L65
  obtain ⟨P, pc, cl, hb, hr⟩ := hd
  have hlen := hr.len
  refine ⟨fun st h' => ∃ I : Nat, st.2.1 = (I : Int) ∧ I ≤ 32 ∧ st.1.2.1 = (heldGo f I 0).length ∧ Only (fun _ => False) h h' ∧ Buf h' 3 st.1.1 (heldGo f I 0).length st.1.2.2 (flatX (heldGo f I 0)) ∧ Fresh h st.1.1, fun st _ => (32 - st.2.1).toNat,
    ⟨0, rfl, by decide, rfl, Only.refl _ _, Buf.nil _ _, fun a ha => (by cases ha)⟩, ?_⟩
  rintro ⟨⟨p, l, c⟩, j, ⟨⟩⟩ h' ⟨I, hi, hI, hl, ho, hbuf, hfr⟩
  simp only at hi hl hbuf hfr ⊢
  subst hi hl
  have hb' := hb.only ho fun _ _ => id
  have hgl := heldGo_le f I 0
  refine bsel_dec (fun h0 => ?_) fun h0 => ?_
  · have hI2 : I < 32 := by omega
    refine rat_spec hb' (by omega) ?_
    refine onI_of ?_
    have hsu := heldGo_succ f I 0
    rw [Nat.zero_add] at hsu
    have hg := hr.get I hI2
    rcases atL_cases (I : Int) cl 0 with ⟨h1, h2⟩ | ⟨i, x, h1, h2, h3, h4⟩
    · rw [h1]
      refine bsel_dec (fun e => by omega) fun _ => ?_
      rw [hg, h2] at hsu
      simp only [List.append_nil] at hsu
      refine ⟨⟨I + 1, ?_, hI2, by rw [hsu], ho, by rw [hsu]; exact hbuf, hfr⟩, ?_⟩
      · rw [w64 (by omega) (by omega)]; rfl
      · rw [w64 (by omega) (by omega)]; omega
    · rw [h1, Nat.zero_add]
      have hil := (List.getElem?_eq_some_iff.1 h2).1
      refine bsel_dec (fun _ => ?_) fun e => absurd (by omega) e
      rw [hg, h4] at hsu
      simp only at hsu
      obtain ⟨b, cs, hP, hbk, ha, hsz⟩ := hb'.row h2
      have hoP : Am.oP P = some ⟨b, 0, none⟩ := by rw [hP]; rfl
      simp only [onPtr, add_mk, Nat.zero_add]
      refine ldS_at hb'.blk rfl ⟨⟨by omega, by omega⟩, ?_⟩
      rw [hoP]
      simp only [onO, add_mk, Nat.zero_add, Int.toNat_natCast]
      refine ldR_at hbk ha rfl hsz ?_
      have hf2 := fill3 (t := 0) (z := zeroOf tc.P 49) (cs := (extV x).toArray) (n := 3) (by rw [z49]; rfl) (by decide) rfl
      rw [hf2]
      simp only [onO]
      have ho4 : Only (fun _ => False) h' (h'.push (.cells (extV x).toArray 49)) := (Only.refl _ _).push _
      have hnew := Blk.new h' (extV x).toArray 49
      refine apnd_buf (by rw [z49]; rfl) (hbuf.only ho4 fun _ _ => id) (ys := extV x) ⟨_, _, _, rfl, hnew, At.all _, by simp⟩ rfl (by decide) (extV_one _) (by omega) (by decide) fun p' cap' h5 ho5 hb5 hp5 => ?_
      simp only [onSl]
      refine ⟨⟨I + 1, ?_, hI2, ?_, (ho.trans ho4 fun _ _ x => x).trans ho5 fun b' hb' e => by have := hfr _ e; simp only at this; omega, ?_, ?_⟩, ?_⟩
      · rw [w64 (by omega) (by omega)]; rfl
      · rw [hsu, List.length_append]; rfl
      · rw [hsu, List.length_append]
        have : flatX (heldGo f I 0 ++ [(I, x)]) = flatX (heldGo f I 0) ++ extV x := by simp [flatX]
        rw [this]; exact hb5
      · rcases hp5 with rfl | ⟨b', rfl, hb'⟩
        · exact hfr
        · intro a ha; injection ha with ha; subst ha; have := ho.1; have := ho4.1; exact by show h.size ≤ b'; omega
      · rw [w64 (by omega) (by omega)]; omega
  · have hIw : I = 32 := by omega
    subst hIw
    exact k h' p c ho hbuf hfr

/-! ### Claim -/

theorem rclaim_tail {N : Nat} {ser : Int} (hN : N < 32) (hb : RTBox h F t r P pc cl) (hr : RelT f cl m) (hm : m ≤ 100000000) (k0 : (f N).isSome = true → K (.tuple #[.int .i64 (-1), .int .i64 101]) h)
    (k1 : f N = none → ∀ h', Only F h h' → RTabAt h' (Gr F h) t r (m + 1) (upd f N (some ⟨N, ser, 1⟩)) → K (.tuple #[.int .i64 (N : Int), .int .i64 0]) h') :
    Run tc.P 73 #[(.pointer (some ⟨t, 0, none⟩)), (.int .i64 (N : Int))] h fun x7 h8 =>
      onI .i64 x7 fun n9 =>
      bsel (decide (0 ≤ n9)) (K (.tuple #[(.int .i64 (-1)), (.int .i64 101)]) h8)
      (onPtr (.pointer (some ⟨t, 0, none⟩)) fun a10 =>
      ldS h8 (a10.add 0) fun p11 l12 c13 =>
      onO (fillL (zeroOf tc.P 49).toList [(0, 1, (.int .i64 (N : Int))), (1, 1, (.int .i64 ser)), (2, 1, (.int .i64 1))]) fun g14 =>
      onO (fillL (zerosN (zeroOf tc.P 49) (1 * 3)).toList [(0, 3, (.agg g14.toArray))]) fun g15 =>
      apnd 49 3 24 (zeroOf tc.P 49) (.slice p11 l12 c13) (.slice (some (Addr.mk h8.size 0 none)) 1 1) (h8.push (.cells g15.toArray 49)) fun x16 h17 =>
      onPtr (.pointer (some ⟨t, 0, none⟩)) fun a18 =>
      szIs (Value.cells x16).size 1 (
      st h17 (a18.add 0) (Value.cells x16) fun h19 =>
      K (.tuple #[(.int .i64 (N : Int)), (.int .i64 0)]) h19)) := by
  have hlen := hr.len
  refine rat_spec hb (by omega) ?_
  refine onI_of ?_
  have hg := hr.get N hN
  rcases atL_cases (N : Int) cl 0 with ⟨h1, h2⟩ | ⟨i, x, h1, h2, h3, h4⟩
  · rw [h1]
    refine bsel_dec (fun e => by omega) fun _ => ?_
    rw [h2] at hg
    simp only [onPtr, add_mk, Nat.zero_add]
    refine ldS_at hb.blk rfl ?_
    rw [fill49]
    simp only [onO]
    have hf2 := fill3 (t := 0) (z := zeroOf tc.P 49) (cs := (extV ⟨N, ser, 1⟩).toArray) (n := 3) (by rw [z49]; rfl) (by decide) rfl
    rw [hf2]
    simp only [onO]
    have ho4 : Only (fun _ => False) h (h.push (.cells (extV ⟨N, ser, 1⟩).toArray 49)) := (Only.refl _ _).push _
    have hnew := Blk.new h (extV ⟨N, ser, 1⟩).toArray 49
    refine apnd_buf (by rw [z49]; rfl) (hb.buf.only ho4 fun _ _ => id) (ys := extV ⟨N, ser, 1⟩) ⟨_, _, _, rfl, hnew, At.all _, by simp⟩ rfl (by decide) (extV_one _) (by omega) (by decide) fun p' cap' h5 ho5 hb5 hp5 => ?_
    obtain ⟨P', rfl, hP'⟩ := oP_new hp5
    have hcells : (Value.slice (Am.oP P') (cl.length + 1) cap').cells = #[Value.slice (Am.oP P') (cl.length + 1) cap'] := rfl
    rw [hcells]
    refine szIs_of rfl ?_
    have ho45 : Only (fun b => Am.oP P = some ⟨b, 0, none⟩) h h5 := (ho4.mono fun _ _ x => x.elim).trans ho5 fun _ _ x => x
    have hll : (cl ++ [(⟨N, ser, 1⟩ : ExtS)]).length = cl.length + 1 := by simp
    have hset := hb.setP (cl' := cl ++ [⟨N, ser, 1⟩]) (pc' := cap') (P' := P') ho45 (by rw [hll, List.flatMap_append]; simpa using hb5) (by
      rcases hP' with k | ⟨b, k, hk⟩
      · exact .inl k
      · exact .inr (.inr ⟨b, k, by have := ho4.1; omega⟩))
    rw [hll] at hset
    have hrblk := hb.blk.only ho45 fun e => (hb.fp _ (oP_block e)).2 rfl
    refine st_at hrblk (by simp) (one_ok _ rfl) ?_
    exact k1 hg _ ((ho45.mono fun b _ e => (hb.fp _ (oP_block e)).1 : Only F h h5).set (.inl hb.ft)) ⟨P', cap', _, hset, hr.add hN hg rfl rfl⟩
  · rw [h1, Nat.zero_add]
    exact bsel_dec (fun _ => k0 (by rw [hg, h4]; rfl)) fun e => absurd (by omega) e

theorem rclaim_spec {n ser : Int} (hd : RTabAt h F t r m f) (hm : m ≤ 100000000) (k : ∀ h', Only F h h' → RTabAt h' (Gr F h) t r (m + 1) (claimF f n ser).2 → K (.tuple #[.int .i64 (claimF f n ser).1.1, .int .i64 (claimF f n ser).1.2]) h') :
    Run tc.P 60 #[.pointer (some ⟨t, 0, none⟩), .int .i64 n, .int .i64 ser] h K := by
  apply L60_run; unfold L60
  have hsame := (hd.more (Nat.le_add_right m 1)).grow (h' := h)
  obtain ⟨P, pc, cl, hb, hr⟩ := hd
  have hlen := hr.len
  refine bsel_dec (fun h0 => ?_) fun h0 => ?_
  · have e : claimF f n ser = ((-1, 1), f) := by unfold claimF; rw [if_pos h0]
    rw [e] at k; exact k h (Only.refl _ _) hsame
  refine bsel_dec (fun h1 => ?_) fun h1 => ?_
  · have e : claimF f n ser = ((-1, 1), f) := by unfold claimF; rw [if_neg h0, if_pos h1]
    rw [e] at k; exact k h (Only.refl _ _) hsame
  refine bsel_dec (fun h2 => ?_) fun h2 => ?_
  · subst h2
    refine ⟨fun st h' => ∃ I : Nat, st.1 = (I : Int) ∧ I ≤ 32 ∧ h' = h ∧ ∀ j, j < I → (f j).isSome = true, fun st _ => (32 - st.1).toNat, ⟨0, rfl, by decide, rfl, fun j hj => by omega⟩, ?_⟩
    rintro ⟨i, ⟨⟩⟩ h' ⟨I, hi, hI, rfl, hall⟩
    simp only at hi ⊢
    subst hi
    refine bsel_dec (fun h3 => ?_) fun h3 => ?_
    · have hI2 : I < 32 := by omega
      have hg := hr.get I hI2
      refine rat_spec hb (by omega) ?_
      refine onI_of ?_
      rcases atL_cases (I : Int) cl 0 with ⟨h4, h5⟩ | ⟨i, x, h4, h5, h6, h7⟩
      · rw [h4]
        refine bsel_dec (fun e => by omega) fun _ => bsel_dec (fun e => by omega) fun _ => bsel_dec (fun e => by omega) fun _ => bsel_dec (fun e => by omega) fun _ => ?_
        have hfI : f I = none := by rw [hg, h5]
        have hlow : IsLow f I := ⟨hI2, hfI, hall⟩
        have e : claimF f (-1) ser = (((I : Int), 0), upd f I (some ⟨I, ser, 1⟩)) := by unfold claimF; rw [if_neg h0, if_neg h1, if_pos rfl, hlow.lowest]
        rw [e] at k
        exact rclaim_tail hI2 hb hr hm (fun e => by rw [hfI] at e; cases e) fun _ h' ho hd' => k h' ho hd'
      · rw [h4, Nat.zero_add]
        refine bsel_dec (fun _ => ?_) fun e => absurd (by omega) e
        refine ⟨⟨I + 1, ?_, hI2, rfl, fun j hj => ?_⟩, ?_⟩
        · rw [w64 (by omega) (by omega)]; rfl
        · rcases Nat.lt_succ_iff_lt_or_eq.1 hj with hj | rfl
          · exact hall j hj
          · rw [hg, h7]; rfl
        · rw [w64 (by omega) (by omega)]; omega
    · have hIw : I = 32 := by omega
      subst hIw
      refine bsel_dec (fun _ => ?_) fun e => absurd rfl e
      have e : claimF f (-1) ser = ((-1, 2), f) := by unfold claimF; rw [if_neg h0, if_neg h1, if_pos rfl, lowest_none fun i hi => hall i hi]
      rw [e] at k; exact k h' (Only.refl _ _) hsame
  refine bsel_dec (fun h3 => ?_) fun h3 => ?_
  · have e : claimF f n ser = ((-1, 100), f) := by unfold claimF; rw [if_neg h0, if_neg h1, if_neg h2, if_pos h3]
    rw [e] at k; exact k h (Only.refl _ _) hsame
  refine bsel_dec (fun h4 => ?_) fun h4 => ?_
  · have e : claimF f n ser = ((-1, 100), f) := by unfold claimF; rw [if_neg h0, if_neg h1, if_neg h2, if_neg h3, if_pos h4]
    rw [e] at k; exact k h (Only.refl _ _) hsame
  obtain ⟨N, rfl⟩ : ∃ N : Nat, n = (N : Int) := ⟨n.toNat, by omega⟩
  have hN : N < 32 := by omega
  have e := claimF_at (f := f) (ser := ser) hN ⟨by omega, by omega⟩
  refine rclaim_tail hN hb hr hm (fun hs => ?_) fun hf h' ho hd' => ?_
  · obtain ⟨y, hy⟩ := Option.isSome_iff_exists.1 hs
    rw [hy] at e
    rw [e] at k; exact k h (Only.refl _ _) hsame
  · rw [hf] at e
    rw [e] at k; exact k h' ho hd'

/-! ### Sectors -/

theorem rxread_spec {n q : Int} (ht : RTabAt h F t r m f) (hm : m ≤ 100000000) (hd : RDiskAt h FD r md s) (hmd : md ≤ 100000000)
    (k0 : xreadE f s n q ≠ 0 → K (.tuple #[.slice none 0 0, .int .i64 (xreadE f s n q)]) h)
    (k1 : xreadE f s n q = 0 → ∀ h' g, Only (fun _ => False) h h' → h.size ≤ g → Blk h' g (byV (s.look (n * 32 + q).toNat)).toArray → K (.tuple #[.slice (some ⟨g, 0, none⟩) 128 128, .int .i64 0]) h') :
    Run tc.P 43 #[.pointer (some ⟨t, 0, none⟩), .int .i64 n, .int .i64 q] h K := by
  apply L43_run; unfold L43
  refine rwhere_spec ht hm ?_
  refine onTup_of rfl (onI_of (onTup_of rfl (onI_of ?_)))
  obtain ⟨P, pc, cl, hb, hr⟩ := ht
  refine bsel_ndec (fun h0 => ?_) fun h0 => ?_
  · have e : xreadE f s n q = (placeF f n q).2 := by unfold xreadE; rw [if_pos h0]
    rw [e] at k0; exact k0 h0
  obtain ⟨hg, hn0, hn1, hm0, hm1, hp⟩ := placeF_ok h0
  simp only [onPtr, add_mk, Nat.zero_add]
  refine ldP_at hb.blk rfl ?_
  have hrr : 0 ≤ (placeF f n q).1 ∧ (placeF f n q).1 < 1024 := by omega
  refine rread_spec (n := (placeF f n q).1) hd hmd (fun h2 => absurd hrr h2) (fun _ h2 => ?_) fun _ h2 h3 g ho3 hg3 hb3 => ?_
  · have e : xreadE f s n q = 42 := by unfold xreadE; rw [if_neg (by simpa using h0), h2]; rfl
    refine onTup_of rfl ?_
    simp only [onSl]
    refine onTup_of rfl (onI_of ?_)
    rw [e] at k0; exact k0 (by decide)
  · have e : xreadE f s n q = 0 := by unfold xreadE; rw [if_neg (by simpa using h0), h2]; rfl
    refine onTup_of rfl ?_
    simp only [onSl]
    refine onTup_of rfl (onI_of ?_)
    rw [hp] at hb3
    exact k1 e h3 g ho3 hg3 hb3

theorem rxwrite_spec {n q : Int} {p : Option Addr} {bs : List UInt8} {l c : Nat} (hbl : bs.length = l) (ht : RTabAt h F t r m f) (hm : m ≤ 100000000) (hd : RDiskAt h FD r md s) (hmd : md ≤ 100000000) (hp : SlAt h p (byV bs)) (hpd : Off p FD)
    (k : ∀ h', Only FD h h' → RDiskAt h' (Gr FD h) r (md + 1) (xwriteF f s n q bs).2 → K (.int .i64 (xwriteF f s n q bs).1) h') :
    Run tc.P 45 #[.pointer (some ⟨t, 0, none⟩), .int .i64 n, .int .i64 q, .slice p l c] h K := by
  subst hbl
  apply L45_run; unfold L45
  refine rwhere_spec ht hm ?_
  refine onTup_of rfl (onI_of (onTup_of rfl (onI_of ?_)))
  obtain ⟨P, pc, cl, hb, hr⟩ := ht
  refine bsel_ndec (fun h0 => ?_) fun h0 => ?_
  · have e : xwriteF f s n q bs = ((placeF f n q).2, s) := by unfold xwriteF; rw [if_pos h0]
    rw [e] at k; exact k h (Only.refl _ _) (hd.grow.more (by omega))
  obtain ⟨hg, hn0, hn1, hm0, hm1, hpl⟩ := placeF_ok h0
  simp only [onPtr, add_mk, Nat.zero_add]
  refine ldP_at hb.blk rfl ?_
  have e : xwriteF f s n q bs = s.write (placeF f n q).1 bs := by unfold xwriteF; rw [if_neg (by simpa using h0), hpl]
  rw [e] at k
  refine rwrite_spec hd hmd hp hpd fun h2 ho2 hd2 => ?_
  exact onI_of (k h2 ho2 hd2)

theorem rxflush_spec (ht : RTabAt h F t r m f) (hd : RDiskAt h FD r md s) (hmd : md ≤ 100000000)
    (k : ∀ h', Only FD h h' → RDiskAt h' (Gr FD h) r md s.flush.2 → K (.int .i64 s.flush.1) h') : Run tc.P 46 #[.pointer (some ⟨t, 0, none⟩)] h K := by
  apply L46_run; unfold L46
  obtain ⟨P, pc, cl, hb, hr⟩ := ht
  simp only [onPtr, add_mk, Nat.zero_add]
  refine ldP_at hb.blk rfl ?_
  refine rflush_spec hd hmd fun h2 ho2 hd2 => ?_
  exact onI_of (k h2 ho2 hd2)

end Am
end Go.Proofs.Ytfijmoofdafoiaa
