/-
  ExtentQuiet: what waits, what is taken, flags: the helpers' contracts.
-/
import Derived.Test.YtfijmoofdafoiaaAmY
set_option linter.unusedSimpArgs false
set_option linter.unusedVariables false
set_option maxRecDepth 100000
namespace Go.Proofs.Ytfijmoofdafoiaa
open Go Go.RowKit
namespace Am

variable {T T' : Nat → Prop} {h h' h'' : Hp} {L : Am.Loc} {B B' : Option Nat} {f f' : Nat → Option ExtS} {s s' : DSt} {d : Nat} {K : Value → Hp → Prop}

theorem bsel_true {A C : Prop} {b : Bool} (hb : b = true) (a : A) : bsel b A C := by subst hb; exact a
theorem bsel_false {A C : Prop} {b : Bool} (hb : b = false) (c : C) : bsel b A C := by subst hb; exact c

theorem xwrite_at {n m : Int} {p : Option Addr} {bs : List UInt8} {l c : Nat} (hbl : bs.length = l) (hx : XAt h L B f s) (hl : s.cache.length ≤ 1099511627) (hp : SlAt h p (byV bs)) (hpd : Off p (Od L.d))
    (k : ∀ h' B', Only (dOwn L.d B) h h' → XAt h' L B' f (xwriteF f s n m bs).2 → (∀ b, B' = some b → B = some b ∨ h.size ≤ b) → K (.int .i64 (xwriteF f s n m bs).1) h') :
    Run tc.P 13 #[.pointer (some ⟨L.x, 0, none⟩), .int .i64 n, .int .i64 m, .slice p l c] h K := by subst hbl; exact xwrite_spec hx hl hp hpd k

/-! ### Rows that are only read -/

/-- The cells behind q, as an append or a copy reads them. -/
def RowAt (h : Hp) (q : Option Addr) (ys : List Value) : Prop := match q with | none => ys = [] | some a => rowH h a ys.length = some ys.toArray

theorem SlAt.rowAt {q : Option Addr} {ys : List Value} (hq : SlAt h q ys) : RowAt h q ys := by
  cases q with
  | none => exact hq
  | some a => exact hq.row rfl

theorem RAt.rowAt {q : Option Addr} {ys : List Value} (hq : RAt h q ys) : RowAt h q ys := by
  cases q with
  | none =>
    cases ys with
    | nil => rfl
    | cons y r => obtain ⟨a, e, -⟩ := hq 0 y rfl; cases e
  | some a =>
    show rowH h a ys.length = some ys.toArray
    by_cases hy : ys = []
    · subst hy; simp [rowH]
    have hl : 0 < ys.length := List.length_pos_iff.2 hy
    have hcell : ∀ j x, ys[j]? = some x → cellH h (a.add j) = some x := fun j x hj => by
      obtain ⟨a', e, hc⟩ := hq j x hj
      cases e; exact hc
    obtain ⟨b, o, sp⟩ := a
    have h0 := hcell 0 _ (List.getElem?_eq_getElem hl)
    obtain ⟨c, e, fr, hb, hs, -⟩ := cellH_block h0
    have hsp : sp = none := by
      unfold Addr.add at hs; split at hs <;> simp_all
    subst hsp
    simp only [Addr.add_none] at hb hcell
    have hat : At c o ys := fun j x hj => by
      have := hcell j x hj
      simpa [cellH, hb] using this
    have hle := hat.le hy
    simp only [rowH]
    rw [if_neg (by omega)]
    simp only [hb, Option.isNone_none, Bool.true_and]
    rw [if_pos (by simpa using hle), hat.extract]

/-- An append of a row, wherever it lies. -/
theorem apnd_row {elem sz bytes l cap m c : Nat} {zero : Array Value} {p q : Option Addr} {xs ys : List Value} {Q : Value → Hp → Prop} (hz : zero.size = sz)
    (hb : Buf h sz p l cap xs) (hq : RowAt h q ys) (hy : ys.length = m * sz) (hz0 : sz ≠ 0) (hy1 : ∀ v ∈ ys, v.oneCell' = true) (hbd : 2 * (l + m) * bytes ≤ 2 ^ 48) (hby : bytes ≠ 0)
    (k : ∀ p' cap' h', Only (fun b => p = some ⟨b, 0, none⟩) h h' → Buf h' sz p' (l + m) cap' (xs ++ ys) → (p' = p ∨ ∃ b, p' = some ⟨b, 0, none⟩ ∧ h.size ≤ b) → Q (.slice p' (l + m) cap') h') :
    apnd elem sz bytes zero (.slice p l cap) (.slice q m c) h Q := by
  simp only [apnd, onSl]
  refine ⟨ys.toArray, ?_, ?_, ?_⟩
  · cases q with
    | none =>
      simp only [RowAt] at hq; subst hq
      refine ⟨rfl, ?_⟩
      simp only [List.length_nil] at hy
      rcases Nat.mul_eq_zero.1 hy.symm with h0 | h0
      · exact h0
      · exact absurd h0 hz0
    | some a => simp only [RowAt] at hq; rw [← hy]; exact hq
  · intro hle
    cases p with
    | none =>
      obtain ⟨rfl, rfl, rfl⟩ := hb
      have hm : m = 0 := by omega
      subst hm
      have : ys = [] := List.length_eq_zero_iff.1 (by simpa using hy)
      subst this
      exact k none 0 h (Only.refl _ _) ⟨rfl, rfl, rfl⟩ (.inl rfl)
    | some a =>
      obtain ⟨b, cs, rfl, hblk, hs, ha, hx, hl⟩ := hb
      simp only [add_mk, Nat.zero_add]
      have hroom : l * sz + ys.toArray.size ≤ cs.size := by
        rw [hs, List.size_toArray, hy, ← Nat.add_mul]; exact Nat.mul_le_mul_right _ hle
      refine st_at hblk hroom (fun v hv => hy1 v (by simpa using hv)) (k _ _ _ ((Only.refl _ _).set (.inl rfl)) ⟨b, _, rfl, hblk.setB, by rw [splice_size hroom, hs], ?_, by rw [List.length_append, hx, hy, ← Nat.add_mul], hle⟩ (.inl rfl))
      refine (ha.splice_off hroom (.inl (by omega))).append ?_
      have := At.splice_self hroom (vs := ys.toArray)
      rw [Nat.zero_add, hx]; simpa using this
  · intro hgt
    refine ⟨⟨?_, hby⟩, ?_⟩
    · exact Nat.le_trans (Nat.mul_le_mul_right _ (nextslicecap_le hgt)) hbd
    · refine ⟨xs.toArray, ?_, ?_⟩
      · have := hb.slAt.row hb.len
        cases p with
        | none => obtain ⟨rfl, rfl, rfl⟩ := hb; exact ⟨rfl, rfl⟩
        | some a => exact this
      · intro cap' hc
        refine k _ _ _ ((Only.refl _ _).push _) ⟨h.size, _, rfl, Blk.new _ _ _, ?_, ?_, by rw [List.length_append, hb.len, hy, ← Nat.add_mul], hc⟩ (.inr ⟨_, rfl, Nat.le_refl _⟩)
        · rw [Array.size_append, Array.size_append, zeroCells_size, hz, List.size_toArray, List.size_toArray, hb.len, hy, ← Nat.add_mul, ← Nat.add_mul]
          congr 1; omega
        · intro j x hj
          have hj' := (List.getElem?_eq_some_iff.1 hj).1
          rw [Nat.zero_add, Array.getElem?_append_left (by rw [Array.size_append, List.size_toArray, List.size_toArray]; simpa using hj')]
          rw [show xs.toArray ++ ys.toArray = (xs ++ ys).toArray from by simp, List.getElem?_toArray]; exact hj

/-! ### What waits -/

theorem pending_spec (hd : DiskAt h d B s) (hl : s.cache.length ≤ 1099511627)
    (k : ∀ h' p cap xs, Only (fun _ => False) h h' → Buf h' 1 p s.cache.length cap xs → Fresh h p → K (.slice p s.cache.length cap) h') : Run tc.P 20 #[.pointer (some ⟨d, 0, none⟩)] h K := by
  apply L20_run; unfold L20; simp only [onPtr, add_mk, Nat.zero_add]
  obtain ⟨cap, cs, hb⟩ := id hd
  refine ldS_at hb.blk hb.get.1 ?_
  refine ⟨fun st h' => ∃ (I : Nat) (xs : List Value), st.2.1 = (I : Int) ∧ I ≤ s.cache.length ∧ st.1.2.1 = I ∧ Only (fun _ => False) h h' ∧ Buf h' 1 st.1.1 I st.1.2.2 xs ∧ Fresh h st.1.1, fun st _ => ((s.cache.length : Int) - st.2.1).toNat,
    ⟨0, [], rfl, Nat.zero_le _, rfl, Only.refl _ _, Buf.nil _ _, fun a ha => by cases ha⟩, ?_⟩
  rintro ⟨⟨p, l, c⟩, i, ⟨⟩⟩ h' ⟨I, xs, hi, hI, hl', ho, hbuf, hf⟩
  simp only at hi hl' hbuf hf ⊢
  subst hi hl'
  refine bsel_dec (fun h0 => ?_) fun h0 => ?_
  · have hI2 : l < s.cache.length := by omega
    have hIe : s.cache[l]? = some s.cache[l] := List.getElem?_eq_getElem hI2
    have hent := hb.ents _ (List.getElem_mem hI2)
    generalize s.cache[l] = e at *
    have hb' := hb.only ho id (fun _ _ => id)
    obtain ⟨b, cc, hB, hbc, ha⟩ := hb'.row (e := e) hIe
    have hel := entV_length hent.2
    have hale := ha.le (by simp [entV])
    rw [hel] at hale
    refine ⟨⟨by simp, h0⟩, ?_⟩
    subst hB
    simp only [Option.map_some, onO, add_mk, Nat.zero_add, Nat.add_zero, Int.toNat_natCast]
    refine ldR_at hbc ha hel hale (szIs_of (by simpa using hel) ?_)
    have hb0 : Blk (h'.push (.cells (zeroOf tc.P 93) 93)) h'.size (zeroOf tc.P 93) := Blk.new _ _ _
    have hzs : (zeroOf tc.P 93).size = 129 := by obtain ⟨zb, hzb, hz⟩ := z93_ex; rw [← Array.length_toList, hz]; simp [byV_length, hzb]
    refine st_at hb0 (by rw [hzs, List.size_toArray, hel]; decide) (entV_one e) ?_
    have hs0 : splice (zeroOf tc.P 93) 0 (entV e).toArray = (entV e).toArray := by
      simp only [splice, List.take_zero, List.nil_append]
      rw [List.drop_of_length_le (by rw [List.size_toArray, hel, Array.length_toList, hzs]; decide)]; simp
    rw [hs0]
    have hb1 := hb0.setB (cs' := (entV e).toArray)
    have ho1 : Only (fun _ => False) h' (setB (h'.push (.cells (zeroOf tc.P 93) 93)) h'.size (entV e).toArray) := ((Only.refl _ _).push _).set (.inr (Nat.le_refl _))
    generalize setB (h'.push (.cells (zeroOf tc.P 93) 93)) h'.size (entV e).toArray = h1 at *
    refine ldI_at hb1 (At.all (entV e) 0 _ rfl) ?_
    rw [fill1 (by rw [z3]; rfl) rfl]
    simp only [onO]
    have hnew := Blk.new h1 [Value.int .i64 (e.1 : Int)].toArray 3
    have ho2 : Only (fun _ => False) h1 (h1.push (.cells [Value.int .i64 (e.1 : Int)].toArray 3)) := (Only.refl _ _).push _
    have ho12 := ho1.trans ho2 fun _ _ x => x
    refine apnd_buf (by rw [z3]; rfl) (hbuf.only ho12 fun _ _ => id) (ys := [.int .i64 (e.1 : Int)]) ⟨_, _, _, rfl, hnew, At.all _, by simp⟩ rfl (by decide) (fun v hv => by simp at hv; subst hv; rfl) (by omega) (by decide) ?_
    intro p' cap' h2 ho3 hb3 hp3
    simp only [onSl]
    refine ⟨⟨l + 1, _, ?_, by omega, rfl, (ho.trans ho12 fun _ _ x => x).trans ho3 fun b' hb' e => by have := hf _ e; simp only at this; omega, hb3, ?_⟩, ?_⟩
    · rw [w64 (by omega) (by omega)]; rfl
    · rcases hp3 with rfl | ⟨b', rfl, hb'⟩
      · exact hf
      · intro a ha; injection ha with ha; subst ha; have := ho.1; have := ho12.1; exact by show h.size ≤ b'; omega
    · rw [w64 (by omega) (by omega)]; omega
  · have : l = s.cache.length := by omega
    subst this
    exact k h' p c xs ho hbuf hf

/-! ### What is taken -/

def m32 (n : Int) : Int := IntKind.i64.wrap (Int.tmod (IntKind.u64.wrap n) 32)

theorem slAddr_at {p : Option Addr} {c : Nat} {xs : List Value} (hr : RAt h p xs) : RAt h (slAddr p 0 c 1) xs := by
  intro j x hj
  obtain ⟨a, rfl, hc⟩ := hr j x hj
  unfold slAddr
  split
  · exact ⟨a, rfl, hc⟩
  · refine ⟨_, rfl, ?_⟩
    rw [Addr.add_add]; simpa using hc

theorem RAt.take {p : Option Addr} {xs : List Value} (hr : RAt h p xs) (n : Nat) : RAt h p (xs.take n) := by
  intro j x hj
  rw [List.getElem?_take] at hj
  split at hj
  · exact hr j x hj
  · cases hj

theorem taken_spec {p : Option Addr} {l : List Int} {c : Nat} {n : Int} (hp : RAt h p (intV l)) (hl : l.length ≤ 100000000) (k : K (.bool (l.any fun x => decide (m32 x = n))) h) :
    Run tc.P 24 #[.slice p l.length c, .int .i64 n] h K := by
  apply L24_run; unfold L24
  refine ⟨fun st h' => ∃ I : Nat, st.1 = (I : Int) ∧ I ≤ l.length ∧ h' = h ∧ (l.take I).any (fun x => decide (m32 x = n)) = false, fun st _ => ((l.length : Int) - st.1).toNat, ⟨0, rfl, Nat.zero_le _, rfl, rfl⟩, ?_⟩
  rintro ⟨i, ⟨⟩⟩ h' ⟨I, hi, hI, rfl, hany⟩
  simp only at hi ⊢
  subst hi
  refine bsel_dec (fun h0 => ?_) fun h0 => ?_
  · have hI2 : I < l.length := by omega
    obtain ⟨a, rfl, hc⟩ := hp.int hI2
    refine ⟨⟨by simp, h0⟩, ?_⟩
    simp only [onO, Int.toNat_natCast, Nat.mul_one]
    refine ldI_cell hc ?_
    have hlI : l[I]? = some (l[I]'hI2) := List.getElem?_eq_getElem hI2
    refine bsel_dec (fun h1 => ?_) fun h1 => ?_
    · have : l.any (fun x => decide (m32 x = n)) = true := List.any_eq_true.2 ⟨l[I]'hI2, List.getElem_mem hI2, decide_eq_true h1⟩
      rw [this] at k; exact k
    · refine ⟨⟨I + 1, ?_, hI2, trivial, ?_⟩, ?_⟩
      · rw [w64 (by omega) (by omega)]; rfl
      · rw [List.take_add_one, hlI, List.any_append, hany]
        simp only [Option.toList_some, List.any_cons, List.any_nil, Bool.false_or, Bool.or_false, decide_eq_false_iff_not]
        exact h1
      · rw [w64 (by omega) (by omega)]; omega
  · have : I = l.length := by omega
    subst this
    rw [List.take_length] at hany
    rw [hany] at k; exact k

theorem taken_at {p : Option Addr} {l : List Int} {m c : Nat} {n : Int} (hm : l.length = m) (hp : RAt h p (intV l)) (hl : l.length ≤ 100000000) (k : K (.bool (l.any fun x => decide (m32 x = n))) h) :
    Run tc.P 24 #[.slice p m c, .int .i64 n] h K := by subst hm; exact taken_spec hp hl k

/-! ### Flags -/

theorem flags_spec {p : Option Addr} {l : List Bool} {c : Nat} (hp : RowAt h p (l.map .bool)) (hl : l.length ≤ 100000000)
    (k : ∀ h' q cap, Only (fun _ => False) h h' → Buf h' 1 q l.length cap (l.map .bool) → Fresh h q → K (.slice q l.length cap) h') : Run tc.P 27 #[.slice p l.length c] h K := by
  apply L27_run; unfold L27
  refine apnd_row (by rw [z4]; rfl) (Buf.nil _ _) hp (by simp) (by decide) (fun v hv => by obtain ⟨b, -, rfl⟩ := List.mem_map.1 hv; rfl) (by omega) (by decide) fun p' cap' h' ho hb hp' => ?_
  rw [Nat.zero_add] at hb ⊢
  refine k h' p' cap' (ho.mono fun b hb e => by cases e) (by simpa using hb) fun a ha => ?_
  rcases hp' with rfl | ⟨b, rfl, hg⟩
  · cases ha
  · injection ha with ha; subst ha; exact hg

theorem zerosN_bool (n : Nat) : zerosN (zeroOf tc.P 4) n = (List.replicate n (Value.bool false)).toArray := by
  rw [z4]; apply Array.ext <;> simp [zerosN, Nat.mod_one]

end Am
end Go.Proofs.Ytfijmoofdafoiaa
