/-
  More helpers of the statements: a disk with sectors written, counting, what is taken, flags.
-/
import Derived.Test.YtfijmoofdafoiaaAmR
set_option linter.unusedSimpArgs false
set_option linter.unusedVariables false
set_option maxRecDepth 100000
namespace Go.Proofs.Ytfijmoofdafoiaa
open Go
namespace Am

variable {T T' : Nat → Prop} {h h' h'' : Hp} {L : Loc} {B B' : Option Nat} {f f' : Nat → Option ExtS} {s s' : DSt} {d : Nat} {K : Value → Hp → Prop}

def intV (l : List Int) : List Value := l.map (.int .i64)

theorem ldI_cell {a : Addr} {k : IntKind} {m : Int} {Q : Int → Prop} (hc : cellH h a = some (.int k m)) (q : Q m) : ldI h a k Q := ⟨m, hc, q⟩

/-- A row that is only read: its block may be whatever. -/
def RAt (h : Hp) (p : Option Addr) (xs : List Value) : Prop := ∀ j x, xs[j]? = some x → ∃ a, p = some a ∧ cellH h (a.add j) = some x

theorem RAt.only {p : Option Addr} {xs : List Value} (hr : RAt h p xs) (ho : Only (fun _ => False) h h') : RAt h' p xs := by
  intro j x hj
  obtain ⟨a, ha, hc⟩ := hr j x hj
  exact ⟨a, ha, ho.keep.cell hc⟩

theorem RAt.int {p : Option Addr} {l : List Int} (hs : RAt h p (intV l)) {j : Nat} (hj : j < l.length) : ∃ a, p = some a ∧ cellH h (a.add j) = some (.int .i64 (l[j]'hj)) :=
  hs j _ (by simp [intV, hj])

/-- Of a filled disk. -/
structure Filled (s : DSt) (n : Nat) : Prop where
  len : s.cache.length = n
  med : s.med = DSt.init.med
  armed : s.armed = false
  down : s.down = false

theorem umod {n : Int} {m : Int} (hm : 0 < m) (hm2 : m ≤ 100000) : 0 ≤ IntKind.i64.wrap (Int.tmod (IntKind.u64.wrap n) m) ∧ IntKind.i64.wrap (Int.tmod (IntKind.u64.wrap n) m) < m := by
  rw [IntKind.wrap_u64, Int.tmod_eq_emod_of_nonneg (by omega)]
  have h1 := Int.emod_nonneg (n % 18446744073709551616) (show m ≠ 0 by omega)
  have h2 := Int.emod_lt_of_pos (n % 18446744073709551616) hm
  rw [w64 (by omega) (by omega)]
  exact ⟨h1, h2⟩

theorem filledDisk_spec {p : Option Addr} {l : List Int} {c : Nat} (hp : RAt h p (intV l)) (hl : l.length ≤ 100000000)
    (k : ∀ h' B s, Only (fun _ => False) h h' → DiskAt h' h.size B s → (∀ b, B = some b → h.size ≤ b) → Filled s l.length → K (.pointer (some ⟨h.size, 0, none⟩)) h') :
    Run tc.P 7 #[.slice p l.length c] h K := by
  apply L7_run; unfold L7
  refine new_spec fun h1 ho1 hd1 => ?_
  simp only [onP]
  refine ⟨by simp, bsel_b (fun e => by cases e) fun _ => ?_⟩
  refine ⟨fun st h' => ∃ i B s, st.1 = ((i : Nat) : Int) ∧ i ≤ l.length ∧ Only (fun _ => False) h h' ∧ DiskAt h' h.size B s ∧ (∀ b, B = some b → h.size ≤ b) ∧ Filled s i, fun st _ => ((l.length : Int) - st.1).toNat,
    ⟨0, none, DSt.init, rfl, Nat.zero_le _, ho1, hd1, fun b hb => (by cases hb), ⟨rfl, rfl, rfl, rfl⟩⟩, ?_⟩
  rintro ⟨i, ⟨⟩⟩ h' ⟨I, B, s, hi, hI, ho, hd, hB, hF⟩
  simp only at hi ⊢
  subst hi
  refine bsel_dec (fun h0 => ?_) fun h0 => ?_
  · have hIl : I < l.length := by omega
    obtain ⟨a, rfl, hc⟩ := (hp.only ho).int hIl
    refine ⟨⟨by omega, h0⟩, ?_⟩
    simp only [onO, Int.toNat_natCast, Nat.mul_one]
    refine ⟨_, hc, ?_⟩
    obtain ⟨u, hu⟩ := u8_of (n := IntKind.i64.wrap ((I : Int) + 1))
    rw [hu]
    refine run_spec (n := 128) (by decide) fun h2 q cap ho2 hbuf hf => ?_
    simp only [onSl]
    have hd2 := hd.only ho2 fun _ _ => id
    have hr := umod (n := l[I]'hIl) (m := 1024) (by decide) (by decide)
    have hlen : (List.replicate 128 u).length = 128 := List.length_replicate
    generalize List.replicate 128 u = bs at *
    have hw := write_spec (n := IntKind.i64.wrap (Int.tmod (IntKind.u64.wrap (l[I]'hIl)) 1024)) (bs := bs) (c := cap) (p := q) (K := fun x14 h15 => onI .i64 x14 fun n16 => bsel (!decide (n16 = 0)) (K (.pointer none) h15)
      ((∃ i B s, (IntKind.i64.wrap ((I : Int) + 1), ()).1 = ((i : Nat) : Int) ∧ i ≤ l.length ∧ Only (fun _ => False) h h15 ∧ DiskAt h15 h.size B s ∧ (∀ b, B = some b → h.size ≤ b) ∧ Filled s i) ∧ ((l.length : Int) - (IntKind.i64.wrap ((I : Int) + 1), ()).1).toNat < ((l.length : Int) - (I : Int)).toNat))
      hd2 (by rw [hF.len]; omega) hbuf.slAt (fun a ha e => by have := hf a ha; have := hd.lt; simp only [Od] at e; omega) ?_
    · rw [hlen] at hw; exact hw
    · intro h3 B3 ho3 hd3 hB3
      have e : s.write (IntKind.i64.wrap (Int.tmod (IntKind.u64.wrap (l[I]'hIl)) 1024)) bs = (0, { s with acts := IntKind.i64.wrap (s.acts + 1), cache := s.cache ++ [((IntKind.i64.wrap (Int.tmod (IntKind.u64.wrap (l[I]'hIl)) 1024)).toNat, bs)] }) := by
        unfold DSt.write DSt.act
        rw [if_neg (by simpa using hr), if_neg (by omega), hF.down, hF.armed]
        simp [DSt.put]
      rw [e] at hd3 ⊢
      refine onI_of (bsel_ndec (fun e => (e rfl).elim) fun _ => ?_)
      rw [w64 (by omega) (by omega)]
      refine ⟨⟨I + 1, B3, _, rfl, hIl, (ho.trans ho2 fun _ _ x => x).trans ho3 fun b hb hx => ?_, hd3, fun b hb => ?_, ⟨by simp [hF.len], hF.med, hF.armed, hF.down⟩⟩, by simp only; omega⟩
      · rcases hx with rfl | hx
        · omega
        · have := hB b hx; omega
      · rcases hB3 b hb with k | k
        · exact hB b k
        · have := ho.1; have := ho2.1; omega
  · have : I = l.length := by omega
    subst this
    exact k h' B s ho hd hB hF

theorem count_spec {l : List Bool} (hl : l.length = 32) (k : ∀ h', Only (fun _ => False) h h' → K (.int .i64 (l.count true : Nat)) h') : Run tc.P 12 #[.agg (l.map .bool).toArray] h K := by
  apply L12_run; unfold L12
  have ho1 : Only (fun _ => False) h (h.push (.cells (l.map .bool).toArray 28)) := (Only.refl _ _).push _
  have hb1 := Blk.new h (l.map Value.bool).toArray 28
  refine ⟨fun st h' => ∃ i : Nat, st.2.1 = (i : Int) ∧ i ≤ 32 ∧ st.1 = ((l.take i).count true : Nat) ∧ h' = h.push (.cells (l.map .bool).toArray 28), fun st _ => (32 - st.2.1).toNat, ⟨0, rfl, by decide, by simp, rfl⟩, ?_⟩
  rintro ⟨c, i, ⟨⟩⟩ h' ⟨I, hi, hI, hc, rfl⟩
  simp only at hi hc ⊢
  subst hi hc
  have hcl : (l.take I).count true ≤ 32 := Nat.le_trans List.count_le_length (by simp; omega)
  refine bsel_dec (fun h0 => ?_) fun h0 => ?_
  · have hI2 : I < l.length := by omega
    refine ⟨⟨by omega, h0⟩, ?_⟩
    simp only [add_mk, Nat.zero_add, Int.toNat_natCast, Nat.mul_one]
    have hlI : l[I]? = some (l[I]'hI2) := List.getElem?_eq_getElem hI2
    have ht : l.take (I + 1) = l.take I ++ [l[I]'hI2] := by rw [List.take_add_one, hlI]; rfl
    refine ldB_at hb1 (m := l[I]'hI2) (by simp [hI2]) ?_
    refine bsel_b (fun h1 => ?_) fun h1 => ?_
    · refine ⟨⟨I + 1, ?_, by omega, ?_, trivial⟩, ?_⟩
      · rw [w64 (by omega) (by omega)]; rfl
      · rw [w64 (by omega) (by omega), ht, List.count_append, h1]; simp
      · rw [w64 (by omega) (by omega)]; omega
    · refine ⟨⟨I + 1, ?_, by omega, ?_, trivial⟩, ?_⟩
      · rw [w64 (by omega) (by omega)]; rfl
      · rw [ht, List.count_append, h1]; simp
      · rw [w64 (by omega) (by omega)]; omega
  · have : I = 32 := by omega
    subst this
    rw [List.take_of_length_le (by omega)]
    exact k _ ho1

end Am
end Go.Proofs.Ytfijmoofdafoiaa
