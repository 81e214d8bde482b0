/-
  The table of the claimed extents in the heap, and what its functions do to it.
-/
import Derived.Test.YtfijmoofdafoiaaAmN
set_option linter.unusedSimpArgs false
set_option linter.unusedVariables false
set_option maxRecDepth 100000
namespace Go.Proofs.Ytfijmoofdafoiaa
open Go
namespace Am

structure ExtS where
  num : Int
  ser : Int
  holds : Int
  deriving DecidableEq

def extV (x : ExtS) : List Value := [.int .i64 x.num, .int .i64 x.ser, .int .i64 x.holds]
theorem extV_one (x : ExtS) : ∀ v ∈ extV x, v.oneCell' = true := by
  intro v hv; simp [extV] at hv; rcases hv with rfl | rfl | rfl <;> rfl

def CellIs (cs : Array Value) (i : Nat) (o : Option ExtS) : Prop :=
  match o with
  | none => ∃ x : ExtS, At cs (i * 4) (.bool false :: extV x)
  | some x => At cs (i * 4) (.bool true :: extV x)

structure TabBox (h : Hp) (t S : Nat) (f : Nat → Option ExtS) (cs : Array Value) (count : Int) (low : Nat) : Prop where
  tb : Blk h t #[.slice (some ⟨S, 0, none⟩) 32 32, .int .i64 count, .int .i64 low]
  sb : Blk h S cs
  size : cs.size = 128
  rows : ∀ i, i < 32 → CellIs cs i (f i)
  ne : S ≠ t
  low32 : low ≤ 32
  below : ∀ i, i < low → (f i).isSome = true

def TabAt (h : Hp) (t S : Nat) (f : Nat → Option ExtS) : Prop := ∃ cs count low, TabBox h t S f cs count low
def tOwn (t S : Nat) (b : Nat) : Prop := b = t ∨ b = S

variable {T T' : Nat → Prop} {h h' h'' : Hp} {t S : Nat} {f : Nat → Option ExtS} {cs : Array Value} {count : Int} {low : Nat} {K : Value → Hp → Prop}

theorem TabBox.only (hb : TabBox h t S f cs count low) (ho : Only T h h') (hn : ∀ b, tOwn t S b → ¬ T b) : TabBox h' t S f cs count low :=
  ⟨hb.tb.only ho (hn _ (.inl rfl)), hb.sb.only ho (hn _ (.inr rfl)), hb.size, hb.rows, hb.ne, hb.low32, hb.below⟩
theorem TabAt.only (ht : TabAt h t S f) (ho : Only T h h') (hn : ∀ b, tOwn t S b → ¬ T b) : TabAt h' t S f := by
  obtain ⟨cs, c, l, hb⟩ := ht; exact ⟨cs, c, l, hb.only ho hn⟩
theorem TabAt.lt (ht : TabAt h t S f) : t < h.size ∧ S < h.size := by obtain ⟨cs, c, l, hb⟩ := ht; exact ⟨hb.tb.lt, hb.sb.lt⟩

theorem CellIs.flag {i : Nat} {o : Option ExtS} (hc : CellIs cs i o) : cs[i * 4]? = some (.bool o.isSome) := by
  cases o with
  | none => obtain ⟨x, hx⟩ := hc; exact hx 0 _ rfl
  | some x => exact hc 0 _ rfl
theorem CellIs.row {i : Nat} {x : ExtS} (hc : CellIs cs i (some x)) : At cs (i * 4 + 1) (extV x) := (At.cons_iff.1 hc).2
theorem CellIs.off {i : Nat} {o : Option ExtS} {p : Nat} {vs : Array Value} (hc : CellIs cs i o) (hs : p + vs.size ≤ cs.size) (hd : i * 4 + 4 ≤ p ∨ p + vs.size ≤ i * 4) : CellIs (splice cs p vs) i o := by
  cases o with
  | none => obtain ⟨x, hx⟩ := hc; exact ⟨x, hx.splice_off hs hd⟩
  | some x => exact At.splice_off hs hc hd

def getR (f : Nat → Option ExtS) (n : Int) : Option ExtS := if 0 ≤ n ∧ n < 32 then f n.toNat else none

theorem getR_some {n : Int} {x : ExtS} (hg : getR f n = some x) : ∃ N : Nat, n = (N : Int) ∧ N < 32 ∧ f N = some x := by
  unfold getR at hg
  split at hg
  · rename_i h; exact ⟨n.toNat, by omega, by omega, hg⟩
  · cases hg

/-- A cell of the table is written anew. -/
theorem TabBox.setCell (hb : TabBox h t S f cs count low) {N : Nat} (hN : N < 32) {o : Option ExtS} {p : Nat} {vs : Array Value} (hp : N * 4 ≤ p) (hv : p + vs.size ≤ N * 4 + 4)
    (hc : CellIs (splice cs p vs) N o) (hl : ∀ i, i < low → (upd f N o i).isSome = true) : TabBox (setB h S (splice cs p vs)) t S (upd f N o) (splice cs p vs) count low := by
  have hs : p + vs.size ≤ cs.size := by rw [hb.size]; omega
  refine ⟨hb.tb.ofSetB (fun e => hb.ne e.symm), hb.sb.setB, by rw [splice_size hs, hb.size], fun i hi => ?_, hb.ne, hb.low32, hl⟩
  show CellIs _ i (if i = N then o else f i)
  split
  · rename_i e; subst e; exact hc
  · exact (hb.rows i hi).off hs (by omega)

/-- One of the table's two counts is written. -/
theorem TabBox.setCount (hb : TabBox h t S f cs count low) (c : Int) : TabBox (setB h t (splice #[.slice (some ⟨S, 0, none⟩) 32 32, .int .i64 count, .int .i64 low] 1 #[.int .i64 c])) t S f cs c low :=
  ⟨hb.tb.setB, hb.sb.ofSetB hb.ne, hb.size, hb.rows, hb.ne, hb.low32, hb.below⟩
theorem TabBox.setLow (hb : TabBox h t S f cs count low) {l : Nat} (hl : l ≤ 32) (hbl : ∀ i, i < l → (f i).isSome = true) : TabBox (setB h t (splice #[.slice (some ⟨S, 0, none⟩) 32 32, .int .i64 count, .int .i64 low] 2 #[.int .i64 l])) t S f cs count l :=
  ⟨hb.tb.setB, hb.sb.ofSetB hb.ne, hb.size, hb.rows, hb.ne, hl, hbl⟩

theorem has_spec {n : Int} (ht : TabAt h t S f) (k : K (.bool (getR f n).isSome) h) : Run tc.P 56 #[.pointer (some ⟨t, 0, none⟩), .int .i64 n] h K := by
  apply L56_run; unfold L56; simp only [onPtr, add_mk, Nat.zero_add]
  obtain ⟨cs, c, l, hb⟩ := ht
  refine bsel_dec (fun h0 => ?_) fun h0 => ?_
  · refine ldS_at hb.tb rfl (bsel_dec (fun h1 => ?_) fun h1 => ?_)
    · refine ldS_at hb.tb rfl ⟨⟨h0, h1⟩, ?_⟩
      simp only [onO, add_mk, Nat.zero_add, Nat.add_zero]
      refine ldB_at hb.sb (hb.rows n.toNat (by omega)).flag ?_
      unfold getR at k; rw [if_pos ⟨h0, by omega⟩] at k; exact k
    · unfold getR at k; rw [if_neg (by omega)] at k; exact k
  · unfold getR at k; rw [if_neg (by omega)] at k; exact k

theorem get_spec {n : Int} (ht : TabAt h t S f) (k0 : getR f n = none → ∀ h', Only (fun _ => False) h h' → K (.tuple #[.agg #[.int .i64 0, .int .i64 0, .int .i64 0], .bool false]) h')
    (k1 : ∀ x, getR f n = some x → ∀ h', Only (fun _ => False) h h' → K (.tuple #[.agg (extV x).toArray, .bool true]) h') : Run tc.P 39 #[.pointer (some ⟨t, 0, none⟩), .int .i64 n] h K := by
  apply L39_run; unfold L39; simp only [onPtr, add_mk, Nat.zero_add]
  have ho1 : Only (fun _ => False) h (h.push (.cells (zeroOf tc.P 49) 49)) := (Only.refl _ _).push _
  have hb1 := Blk.new h (zeroOf tc.P 49) 49
  refine has_spec (ht.only ho1 fun _ _ => id) ?_
  simp only [onB]
  have hz : (zeroOf tc.P 49) = [Value.int .i64 0, .int .i64 0, .int .i64 0].toArray := z49
  rw [hz] at ho1 hb1 ⊢
  have ht1 := ht.only ho1 fun _ _ => id
  generalize hH : h.push (.cells [Value.int .i64 0, .int .i64 0, .int .i64 0].toArray 49) = h1 at *
  refine bsel_nb (fun h0 => ?_) fun h0 => ?_
  · have hg : getR f n = none := by simpa using h0
    have hb2 := Blk.new h1 [Value.int .i64 0, .int .i64 0, .int .i64 0].toArray 49
    refine ldR_at hb2 (At.all _) rfl (by simp) (szIs_of rfl (st_at (hb1.push _) (by simp) (fun v hv => by simp at hv; subst hv; rfl) ?_))
    have hb3 := (hb1.push (.cells [Value.int .i64 0, .int .i64 0, .int .i64 0].toArray 49)).setB (cs' := splice [Value.int .i64 0, .int .i64 0, .int .i64 0].toArray 0 [Value.int .i64 0, .int .i64 0, .int .i64 0].toArray)
    refine ldR_at hb3 (xs := [Value.int .i64 0, .int .i64 0, .int .i64 0]) (At.all _) rfl (by decide) ?_
    exact k0 hg _ ((ho1.push _).set (.inr (Nat.le_refl _)))
  · obtain ⟨x, hx⟩ := Option.isSome_iff_exists.1 h0
    obtain ⟨N, rfl, hN, hf⟩ := getR_some hx
    obtain ⟨cs, c, l, hb⟩ := ht1
    have hr := hb.rows N hN
    rw [hf] at hr
    refine ldS_at hb.tb rfl ⟨⟨by simp, by omega⟩, ?_⟩
    simp only [onO, add_mk, Nat.zero_add, Int.toNat_natCast]
    refine ldR_at hb.sb hr.row rfl (by rw [hb.size]; omega) (szIs_of rfl (st_at hb1 (by simp [extV]) (extV_one x) ?_))
    have hb3 := hb1.setB (cs' := splice [Value.int .i64 0, .int .i64 0, .int .i64 0].toArray 0 (extV x).toArray)
    refine ldR_at hb3 (xs := extV x) (At.all _) rfl (by show 0 + 3 ≤ 3; omega) ?_
    exact k1 x hx _ (ho1.set (.inr (Nat.le_refl _)))

theorem set_spec {n : Int} {x y : ExtS} (ht : TabAt h t S f) (hg : getR f n = some y) (k : ∀ h', Only (tOwn t S) h h' → TabAt h' t S (upd f n.toNat (some x)) → K (.bool true) h') :
    Run tc.P 34 #[.pointer (some ⟨t, 0, none⟩), .int .i64 n, .agg (extV x).toArray] h K := by
  apply L34_run; unfold L34; simp only [onPtr, add_mk, Nat.zero_add]
  have ho1 : Only (fun _ => False) h (h.push (.cells (extV x).toArray 49)) := (Only.refl _ _).push _
  have hb1 := Blk.new h (extV x).toArray 49
  have ht1 := ht.only ho1 fun _ _ => id
  refine has_spec ht1 ?_
  rw [hg]
  obtain ⟨N, rfl, hN, hf⟩ := getR_some hg
  simp only [onB]
  refine bsel_nb (fun h0 => by cases h0) fun _ => ?_
  obtain ⟨cs, c, l, hb⟩ := ht1
  have hr := hb.rows N hN
  rw [hf] at hr
  refine ldS_at hb.tb rfl (ldR_at hb1 (At.all _) rfl (by simp [extV]) ⟨⟨by simp, by omega⟩, ?_⟩)
  simp only [onO, add_mk, Nat.zero_add, Int.toNat_natCast]
  have hs : N * 4 + 1 + (extV x).toArray.size ≤ cs.size := by rw [hb.size]; show N * 4 + 1 + 3 ≤ 128; omega
  refine szIs_of rfl (st_at hb.sb hs (extV_one x) ?_)
  refine k _ ((ho1.mono fun _ _ x => x.elim : Only (tOwn t S) _ _).set (.inl (.inr rfl))) ⟨_, c, l, hb.setCell hN (by omega) (by show N * 4 + 1 + 3 ≤ _; omega) ?_ ?_⟩
  · refine At.cons_iff.2 ⟨?_, At.splice_self hs⟩
    rw [splice_get hs, if_neg (by omega)]; exact hr.flag
  · intro i hi
    unfold upd; split
    · rfl
    · exact hb.below i hi

theorem lay_spec {N : Nat} {x : ExtS} (ht : TabAt h t S f) (hN : N < 32) (k : ∀ h', Only (tOwn t S) h h' → TabAt h' t S (upd f N (some x)) → K (.tuple #[]) h') :
    Run tc.P 55 #[.pointer (some ⟨t, 0, none⟩), .int .i64 N, .agg (extV x).toArray] h K := by
  apply L55_run; unfold L55; simp only [onPtr, add_mk, Nat.zero_add]
  have ho1 : Only (fun _ => False) h (h.push (.cells (extV x).toArray 49)) := (Only.refl _ _).push _
  have hb1 := Blk.new h (extV x).toArray 49
  obtain ⟨cs, c, l, hb⟩ := ht.only ho1 fun _ _ => id
  refine ldS_at hb.tb rfl (ldR_at hb1 (At.all _) rfl (by simp [extV]) ?_)
  have hf : fillL (zeroOf tc.P 108).toList [(0, 1, (.bool true)), (1, 3, (.agg (extV x).toArray))] = some (.bool true :: extV x) := by
    rw [z108]; rfl
  rw [hf]
  simp only [onO, add_mk, Nat.zero_add, Int.toNat_natCast]
  have hs : N * 4 + (Value.bool true :: extV x).toArray.size ≤ cs.size := by rw [hb.size]; show N * 4 + 4 ≤ 128; omega
  refine ⟨⟨by simp, by omega⟩, szIs_of rfl (st_at hb.sb hs (fun v hv => ?_) ?_)⟩
  · rcases List.mem_cons.1 hv with rfl | hv
    · rfl
    · exact extV_one x v hv
  have hb2 := hb.setCell hN (o := some x) (Nat.le_refl _) (by show N * 4 + 4 ≤ _; omega) (At.splice_self hs) (fun i hi => by
    unfold upd; split
    · rfl
    · exact hb.below i hi)
  refine ldI_at hb2.tb rfl (st_at hb2.tb (by simp) (one_ok _ rfl) ?_)
  exact k _ (((ho1.mono fun _ _ x => x.elim : Only (tOwn t S) _ _).set (.inl (.inr rfl))).set (.inl (.inl rfl))) ⟨_, _, _, hb2.setCount _⟩

theorem putAt_spec {N : Nat} {x : ExtS} (ht : TabAt h t S f) (hN : N < 32) (k0 : (f N).isSome = true → ∀ h', Only (fun _ => False) h h' → K (.int .i64 31) h')
    (k1 : f N = none → ∀ h', Only (tOwn t S) h h' → TabAt h' t S (upd f N (some x)) → K (.int .i64 0) h') :
    Run tc.P 35 #[.pointer (some ⟨t, 0, none⟩), .int .i64 N, .agg (extV x).toArray] h K := by
  apply L35_run; unfold L35; simp only [onPtr, add_mk, Nat.zero_add]
  have ho1 : Only (fun _ => False) h (h.push (.cells (extV x).toArray 49)) := (Only.refl _ _).push _
  have hb1 := Blk.new h (extV x).toArray 49
  have ht1 := ht.only ho1 fun _ _ => id
  obtain ⟨cs, c, l, hb⟩ := id ht1
  refine bsel_dec (fun h0 => by omega) fun _ => ?_
  refine ldS_at hb.tb rfl (bsel_dec (fun h0 => by omega) fun _ => ?_)
  refine ldS_at hb.tb rfl ⟨⟨by simp, by omega⟩, ?_⟩
  simp only [onO, add_mk, Nat.zero_add, Nat.add_zero, Int.toNat_natCast]
  refine ldB_at hb.sb (hb.rows N hN).flag (bsel_b (fun h0 => k0 h0 _ ho1) fun h0 => ?_)
  have hf : f N = none := by simpa using h0
  refine ldR_at hb1 (At.all _) rfl (by simp [extV]) ?_
  refine lay_spec ht1 hN fun h' ho ht' => ?_
  exact k1 hf h' ((ho1.mono fun _ _ x => x.elim : Only (tOwn t S) _ _).trans ho fun _ _ x => x) ht'

def lowOf (h : Hp) (t : Nat) : Nat := match cellH h ⟨t, 2, none⟩ with | some (.int _ n) => n.toNat | _ => 0
theorem TabBox.lowOf (hb : TabBox h t S f cs count low) : lowOf h t = low := by
  unfold Am.lowOf; rw [cell_at hb.tb (v := .int .i64 low) rfl]; simp

/-- The lowest free place, if there is one. -/
def IsLow (f : Nat → Option ExtS) (N : Nat) : Prop := N < 32 ∧ f N = none ∧ ∀ i, i < N → (f i).isSome = true

theorem put_spec {x : ExtS} (ht : TabAt h t S f) (k0 : (∀ i, i < 32 → (f i).isSome = true) → ∀ h', Only (tOwn t S) h h' → TabAt h' t S f → K (.tuple #[.int .i64 (-1), .int .i64 2]) h')
    (k1 : ∀ N, IsLow f N → ∀ h', Only (tOwn t S) h h' → TabAt h' t S (upd f N (some x)) → K (.tuple #[.int .i64 N, .int .i64 0]) h') :
    Run tc.P 33 #[.pointer (some ⟨t, 0, none⟩), .agg (extV x).toArray] h K := by
  apply L33_run; unfold L33; simp only [onPtr, add_mk, Nat.zero_add]
  have ho1 : Only (fun _ => False) h (h.push (.cells (extV x).toArray 49)) := (Only.refl _ _).push _
  have hb1 := Blk.new h (extV x).toArray 49
  have ht1 := ht.only ho1 fun _ _ => id
  have hlt := ht.lt
  refine ⟨fun _ h' => Only (tOwn t S) h h' ∧ TabAt h' t S f ∧ Blk h' h.size (extV x).toArray, fun _ h' => 33 - lowOf h' t, ⟨ho1.mono fun _ _ x => x.elim, ht1, hb1⟩, ?_⟩
  rintro ⟨⟩ h' ⟨ho, ht', hbx⟩
  obtain ⟨cs, c, l, hb⟩ := id ht'
  refine ldI_at hb.tb rfl (ldS_at hb.tb rfl (bsel_dec (fun h0 => ?_) fun h0 => ?_))
  · have hl : l < 32 := by omega
    refine ldS_at hb.tb rfl (ldI_at hb.tb rfl ⟨⟨by simp, h0⟩, ?_⟩)
    simp only [onO, add_mk, Nat.zero_add, Nat.add_zero, Int.toNat_natCast]
    refine ldB_at hb.sb (hb.rows l hl).flag (bsel_b (fun h1 => ?_) fun h1 => ?_)
    · refine ldI_at hb.tb rfl (st_at hb.tb (by simp) (one_ok _ rfl) ?_)
      rw [w64 (by omega) (by omega)]
      have hb2 := hb.setLow (l := l + 1) (by omega) (fun i hi => by
        rcases Nat.lt_succ_iff_lt_or_eq.1 hi with hi | rfl
        · exact hb.below i hi
        · exact h1)
      refine ⟨⟨ho.set (.inl (.inl rfl)), ⟨_, _, _, hb2⟩, hbx.ofSetB (by omega)⟩, ?_⟩
      rw [hb.lowOf]
      have := hb2.lowOf
      push_cast at this
      rw [this]; omega
    · have hf : f l = none := by simpa using h1
      refine ldI_at hb.tb rfl (ldS_at hb.tb rfl (bsel_dec (fun h2 => by omega) fun _ => ?_))
      refine ldI_at hb.tb rfl (ldR_at hbx (At.all _) rfl (by simp [extV]) ?_)
      refine lay_spec ht' hl fun h2 ho2 ht2 => ?_
      exact k1 l ⟨hl, hf, hb.below⟩ h2 (ho.trans ho2 fun _ _ x => x) ht2
  · have hl : l = 32 := by have := hb.low32; omega
    refine ldI_at hb.tb rfl (ldS_at hb.tb rfl (bsel_dec (fun h2 => ?_) fun h2 => by omega))
    exact k0 (fun i hi => hb.below i (by omega)) h' ho ht'

theorem drop_spec {n : Int} {y : ExtS} (ht : TabAt h t S f) (hg : getR f n = some y) (k : ∀ v h', Only (tOwn t S) h h' → TabAt h' t S (upd f n.toNat none) → K v h') :
    Run tc.P 74 #[.pointer (some ⟨t, 0, none⟩), .int .i64 n] h K := by
  apply L74_run; unfold L74; simp only [onPtr, add_mk, Nat.zero_add]
  have hz : (zeroOf tc.P 49) = [Value.int .i64 0, .int .i64 0, .int .i64 0].toArray := z49
  rw [hz]
  have ho1 : Only (fun _ => False) h ((h.push (.cells [Value.int .i64 0, .int .i64 0, .int .i64 0].toArray 49)).push (.cells [Value.int .i64 0, .int .i64 0, .int .i64 0].toArray 49)) := ((Only.refl _ _).push _).push _
  have hb1 := (Blk.new h [Value.int .i64 0, .int .i64 0, .int .i64 0].toArray 49).push (.cells [Value.int .i64 0, .int .i64 0, .int .i64 0].toArray 49)
  have ht1 := ht.only ho1 fun _ _ => id
  have hlt := ht.lt
  refine has_spec ht1 ?_
  rw [hg]
  simp only [onB]
  refine bsel_nb (fun h0 => by cases h0) fun _ => ?_
  generalize hH : (h.push (.cells [Value.int .i64 0, .int .i64 0, .int .i64 0].toArray 49)).push (.cells [Value.int .i64 0, .int .i64 0, .int .i64 0].toArray 49) = h1 at *
  obtain ⟨N, rfl, hN, hf⟩ := getR_some hg
  obtain ⟨cs, c, l, hb⟩ := ht1
  have hr := hb.rows N hN
  rw [hf] at hr
  refine ldS_at hb.tb rfl ⟨⟨by simp, by omega⟩, ?_⟩
  simp only [onO, add_mk, Nat.zero_add, Int.toNat_natCast]
  refine ldR_at hb.sb hr.row rfl (by rw [hb.size]; omega) (szIs_of rfl ?_)
  have hb2 := Blk.new h1 [Value.int .i64 0, .int .i64 0, .int .i64 0].toArray 49
  refine st_at hb2 (by simp [extV]) (extV_one y) ?_
  have hs0 : splice [Value.int .i64 0, .int .i64 0, .int .i64 0].toArray 0 (extV y).toArray = (extV y).toArray := rfl
  rw [hs0]
  have hb3 := hb2.setB (cs' := (extV y).toArray)
  have ho2 : Only (fun _ => False) h1 (setB (h1.push (.cells [Value.int .i64 0, .int .i64 0, .int .i64 0].toArray 49)) h1.size (extV y).toArray) := ((Only.refl _ _).push _).set (.inr (Nat.le_refl _))
  have hbx := hb.only ho2 fun _ _ => id
  have hb1' := hb1.only ho2 id
  have hgt : h.size < h1.size := hb1.lt
  have ho3 : Only (fun _ => False) h (setB (h1.push (.cells [Value.int .i64 0, .int .i64 0, .int .i64 0].toArray 49)) h1.size (extV y).toArray) := ho1.trans ho2 fun _ _ x => x
  generalize hH2 : setB (h1.push (.cells [Value.int .i64 0, .int .i64 0, .int .i64 0].toArray 49)) h1.size (extV y).toArray = h2 at *
  refine ldS_at hbx.tb rfl ⟨⟨by simp, by omega⟩, ?_⟩
  simp only [onO, add_mk, Nat.zero_add, Int.toNat_natCast]
  have hz8 : (zeroOf tc.P 108).toList.toArray = (Value.bool false :: extV ⟨0, 0, 0⟩).toArray := by rw [z108]; rfl
  rw [hz8]
  have hs : N * 4 + (Value.bool false :: extV ⟨0, 0, 0⟩).toArray.size ≤ cs.size := by rw [hb.size]; show N * 4 + 4 ≤ 128; omega
  refine szIs_of rfl (st_at hbx.sb hs (fun v hv => ?_) ?_)
  · rcases List.mem_cons.1 hv with rfl | hv
    · rfl
    · exact extV_one _ v hv
  have hl1 : ∀ i, i < (if N < l then N else l) → (upd f N none i).isSome = true := by
    intro i hi
    have : i < l ∧ i ≠ N := by split at hi <;> omega
    unfold upd; rw [if_neg this.2]; exact hb.below i this.1
  -- the low count is set ahead in the model of the table
  have hb4 : TabBox (setB h2 S (splice cs (N * 4) (Value.bool false :: extV ⟨0, 0, 0⟩).toArray)) t S (upd f N none) (splice cs (N * 4) (Value.bool false :: extV ⟨0, 0, 0⟩).toArray) c 0 → True := fun _ => trivial
  have htb : Blk (setB h2 S (splice cs (N * 4) (Value.bool false :: extV ⟨0, 0, 0⟩).toArray)) t #[.slice (some ⟨S, 0, none⟩) 32 32, .int .i64 c, .int .i64 l] := hbx.tb.ofSetB (fun e => hb.ne e.symm)
  refine ldI_at htb rfl (st_at htb (by simp) (one_ok _ rfl) ?_)
  have htb2 := htb.setB (cs' := splice #[.slice (some ⟨S, 0, none⟩) 32 32, .int .i64 c, .int .i64 l] 1 #[.int .i64 (IntKind.i64.wrap (c - 1))])
  refine ldI_at htb2 (m := (l : Int)) rfl (st_at htb2 (by show 2 + 1 ≤ 3; omega) (one_ok _ rfl) ?_)
  have htb3 := htb2.setB (cs' := splice (splice #[.slice (some ⟨S, 0, none⟩) 32 32, .int .i64 c, .int .i64 l] 1 #[.int .i64 (IntKind.i64.wrap (c - 1))]) 2 #[.int .i64 (if (N : Int) < l then N else l)])
  have hlow : (if (N : Int) < l then (N : Int) else l) = ((if N < l then N else l : Nat) : Int) := by split <;> split <;> omega
  have hfin : TabAt (setB (setB (setB h2 S (splice cs (N * 4) (Value.bool false :: extV ⟨0, 0, 0⟩).toArray)) t (splice #[.slice (some ⟨S, 0, none⟩) 32 32, .int .i64 c, .int .i64 l] 1 #[.int .i64 (IntKind.i64.wrap (c - 1))])) t (splice (splice #[.slice (some ⟨S, 0, none⟩) 32 32, .int .i64 c, .int .i64 l] 1 #[.int .i64 (IntKind.i64.wrap (c - 1))]) 2 #[.int .i64 (if (N : Int) < l then N else l)])) t S (upd f N none) := by
    refine ⟨splice cs (N * 4) (Value.bool false :: extV ⟨0, 0, 0⟩).toArray, IntKind.i64.wrap (c - 1), if N < l then N else l, ?_, ?_, by rw [splice_size hs, hb.size], fun i hi => ?_, hb.ne, by have := hb.low32; split <;> omega, hl1⟩
    · rw [← hlow]; exact htb3
    · exact ((hbx.sb.setB).ofSetB hb.ne).ofSetB hb.ne
    · show CellIs _ i (if i = N then none else f i)
      split
      · rename_i e; subst e; exact ⟨⟨0, 0, 0⟩, At.splice_self hs⟩
      · exact (hb.rows i hi).off hs (by show i * 4 + 4 ≤ N * 4 ∨ N * 4 + 4 ≤ i * 4; omega)
  have ho4 : Only (tOwn t S) h (setB (setB (setB h2 S (splice cs (N * 4) (Value.bool false :: extV ⟨0, 0, 0⟩).toArray)) t (splice #[.slice (some ⟨S, 0, none⟩) 32 32, .int .i64 c, .int .i64 l] 1 #[.int .i64 (IntKind.i64.wrap (c - 1))])) t (splice (splice #[.slice (some ⟨S, 0, none⟩) 32 32, .int .i64 c, .int .i64 l] 1 #[.int .i64 (IntKind.i64.wrap (c - 1))]) 2 #[.int .i64 (if (N : Int) < l then N else l)])) :=
    (((ho3.mono fun _ _ x => x.elim).set (.inl (.inr rfl))).set (.inl (.inl rfl))).set (.inl (.inl rfl))
  have hx1 : h1.size ≠ t := by omega
  have hx2 : h1.size ≠ S := by omega
  have hy := ((hb3.ofSetB hx2 (cs' := splice cs (N * 4) (Value.bool false :: extV ⟨0, 0, 0⟩).toArray)).ofSetB hx1 (cs' := splice #[.slice (some ⟨S, 0, none⟩) 32 32, .int .i64 c, .int .i64 l] 1 #[.int .i64 (IntKind.i64.wrap (c - 1))])).ofSetB hx1 (cs' := splice (splice #[.slice (some ⟨S, 0, none⟩) 32 32, .int .i64 c, .int .i64 l] 1 #[.int .i64 (IntKind.i64.wrap (c - 1))]) 2 #[.int .i64 (if (N : Int) < l then N else l)])
  have hn := ((hb1'.ofSetB (show h.size ≠ S by omega) (cs' := splice cs (N * 4) (Value.bool false :: extV ⟨0, 0, 0⟩).toArray)).ofSetB (show h.size ≠ t by omega) (cs' := splice #[.slice (some ⟨S, 0, none⟩) 32 32, .int .i64 c, .int .i64 l] 1 #[.int .i64 (IntKind.i64.wrap (c - 1))])).ofSetB (show h.size ≠ t by omega) (cs' := splice (splice #[.slice (some ⟨S, 0, none⟩) 32 32, .int .i64 c, .int .i64 l] 1 #[.int .i64 (IntKind.i64.wrap (c - 1))]) 2 #[.int .i64 (if (N : Int) < l then N else l)])
  refine ldR_at hy (At.all (extV y)) rfl (by simp [extV]) (szIs_of rfl (st_at hn (by simp [extV]) (extV_one y) ?_))
  have hn2 := hn.setB (cs' := splice [Value.int .i64 0, .int .i64 0, .int .i64 0].toArray 0 (extV y).toArray)
  refine ldR_at hn2 (xs := extV y) (At.all _) rfl (by show 0 + 3 ≤ 3; omega) ?_
  refine k _ _ (ho4.set (.inr (Nat.le_refl _))) (hfin.only ((Only.refl (fun b => b = h.size) _).set (.inl rfl)) fun b hb' => ?_)
  rcases hb' with rfl | rfl <;> omega

end Am
end Go.Proofs.Ytfijmoofdafoiaa
