/-
  Reading and writing a sector.
-/
import Derived.Test.YtfijmoofdafoiaaAmJ
set_option linter.unusedSimpArgs false
set_option linter.unusedVariables false
set_option maxRecDepth 100000
namespace Go.Proofs.Ytfijmoofdafoiaa
open Go
namespace Am

variable {S S' : Nat → Prop} {h h' h'' : Hp} {d : Nat} {B : Option Nat} {cap : Nat} {s : DSt} {cs : Array Value} {K : Value → Hp → Prop}

theorem fill1 {z : Array Value} (hz : z.size = 1) {v : Value} (hv : v.cells = #[v]) : fillL (zerosN z (1 * 1)).toList [(0, 1, v)] = some [v] := by
  have hl : (zerosN z (1 * 1)).toList.length = 1 := by unfold zerosN; simp
  simp only [fillL, hv]
  rw [if_pos ⟨rfl, by omega⟩, List.drop_of_length_le (by rw [hl]; simp)]; simp

def lookF (m : List UInt8) (l : List (Nat × List UInt8)) (n : Nat) : List UInt8 := l.foldl (fun m e => if e.1 = n then e.2 else m) m
/-- What a read of sector n finds. -/
def DSt.look (s : DSt) (n : Nat) : List UInt8 := lookF (s.med n) s.cache n

theorem lookF_length {n : Nat} : ∀ (l : List (Nat × List UInt8)) (m : List UInt8), m.length = 128 → (∀ e ∈ l, e.1 < 1024 ∧ e.2.length = 128) → (lookF m l n).length = 128 := by
  intro l
  induction l with
  | nil => intro m hm _; exact hm
  | cons e r ih =>
    intro m hm he
    refine ih _ ?_ fun e' h' => he e' (List.mem_cons_of_mem _ h')
    show (if e.1 = n then e.2 else m).length = 128
    split
    · exact (he e (List.mem_cons_self ..)).2
    · exact hm
theorem DiskAt.look_length (hd : DiskAt h d B s) (n : Nat) : (s.look n).length = 128 := by
  obtain ⟨cap, cs, hb⟩ := hd; exact lookF_length _ _ (hb.medl n) hb.ents

theorem read_spec {n : Int} (hd : DiskAt h d B s) (hl : s.cache.length ≤ 1099511627776)
    (k0 : ¬ (0 ≤ n ∧ n < 1024) → K (.tuple #[.slice none 0 0, .int .i64 40]) h)
    (k1 : 0 ≤ n ∧ n < 1024 → s.down = true → K (.tuple #[.slice none 0 0, .int .i64 42]) h)
    (k2 : 0 ≤ n ∧ n < 1024 → s.down = false → ∀ h' g, Only (fun _ => False) h h' → h.size ≤ g → Blk h' g (byV (s.look n.toNat)).toArray → K (.tuple #[.slice (some ⟨g, 0, none⟩) 128 128, .int .i64 0]) h') :
    Run tc.P 36 #[.pointer (some ⟨d, 0, none⟩), .int .i64 n] h K := by
  apply L36_run; unfold L36; simp only [onPtr, add_mk, Nat.zero_add]
  refine there_spec ?_
  simp only [onB]
  refine bsel_ndec k0 fun hn => ?_
  obtain ⟨N, rfl⟩ : ∃ N : Nat, n = (N : Int) := ⟨n.toNat, by omega⟩
  have hN : N < 1024 := by omega
  obtain ⟨cap, cs, hb⟩ := id hd
  refine ldB_at hb.blk hb.get.2.2.2.1 (bsel_b (fun h0 => k1 hn h0) fun h0 => ?_)
  refine ldS_at hb.blk hb.get.1 ?_
  have fin : ∀ (p : Addr) (o b : Nat), p = ⟨b, o, none⟩ → SlAt h (some p) (byV (s.look N)) → Run tc.P 57 #[.slice (some ⟨h.size, 0, none⟩) 1 1] (h.push (.cells [Value.slice (some p) 128 128].toArray 40)) fun x h' => onSl x fun p l c => K (.tuple #[.slice p l c, .int .i64 0]) h' := by
    intro p o b hp hs
    have hnew := Blk.new h [Value.slice (some p) 128 128].toArray 40
    refine join_spec (q := some p) (c := 128) (bs := s.look N) ⟨_, _, _, rfl, hnew, At.all _, by simp⟩ (hs.only ((Only.refl (fun _ => False) _).push _) (fun _ _ => id)) (hd.look_length N) ?_
    intro h' ho hsz hblk
    exact k2 hn h0 h' _ (((Only.refl (fun _ => False) _).push _).trans ho (fun _ _ => id)) (by simp) (by simpa using hblk)
  refine ⟨fun st h' => h' = h ∧ -1 ≤ st.1 ∧ st.1 < (s.cache.length : Int) ∧ lookF (s.med N) (s.cache.take (st.1 + 1).toNat) N = s.look N, fun st _ => (st.1 + 1).toNat, ⟨rfl, ?_, ?_, ?_⟩, ?_⟩
  · simp only; rw [w64 (by omega) (by omega)]; omega
  · simp only; rw [w64 (by omega) (by omega)]; omega
  · simp only; rw [w64 (by omega) (by omega), List.take_of_length_le (by omega)]; rfl
  rintro ⟨i, ⟨⟩⟩ h' ⟨rfl, hi1, hi2, hi3⟩
  simp only at hi1 hi2 hi3 ⊢
  refine bsel_dec (fun h1 => ?_) fun h1 => ?_
  · obtain ⟨I, rfl⟩ : ∃ I : Nat, i = (I : Int) := ⟨i.toNat, by omega⟩
    have hI : I < s.cache.length := by omega
    refine ldS_at hb.blk hb.get.1 ⟨⟨h1, hi2⟩, ?_⟩
    have hI' : s.cache[I]? = some s.cache[I] := List.getElem?_eq_getElem hI
    obtain ⟨b, cc, hB, hbc, ha⟩ := hb.row hI'
    have hcs := ha.le (by simp [entV])
    rw [entV_length (hb.ents _ (List.getElem_mem hI)).2] at hcs
    · rw [hB]
      have h1024 := hb.ents _ (List.getElem_mem hI)
      simp only [Option.map_some, onO, add_mk, Nat.zero_add, Nat.add_zero, Int.toNat_natCast]
      refine ldI_at hbc (ha 0 _ rfl) ?_
      have htake : s.cache.take ((I : Int) + 1).toNat = s.cache.take I ++ [s.cache[I]] := by
        rw [show ((I : Int) + 1).toNat = I + 1 from by omega, List.take_add_one, hI']; rfl
      refine bsel_dec (fun h2 => ?_) fun h2 => ?_
      · refine ldS_at hb.blk hb.get.1 ⟨⟨h1, hi2⟩, ?_⟩
        rw [hB]
        simp only [Option.map_some, onO, add_mk, Nat.zero_add, slAddr]
        rw [if_neg (by decide), fill1 (by rw [z40]; rfl) rfl]
        simp only [Option.map_some, add_mk]
        refine fin _ (I * 129 + 1 + 0 * 1) b rfl ?_
        have : s.look N = s.cache[I].2 := by
          rw [← hi3, htake]; unfold lookF; rw [List.foldl_append]; simp only [List.foldl_cons, List.foldl_nil]; rw [if_pos (by omega)]
        rw [this]
        exact ⟨b, _, cc, rfl, hbc, (At.cons_iff.1 ha).2, by rw [byV_length, h1024.2]; omega⟩
      · refine ⟨⟨trivial, ?_, ?_, ?_⟩, ?_⟩
        · rw [w64 (by omega) (by omega)]; omega
        · rw [w64 (by omega) (by omega)]; omega
        · rw [w64 (by omega) (by omega), ← hi3, htake]; unfold lookF; rw [List.foldl_append]; simp only [List.foldl_cons, List.foldl_nil]; rw [if_neg (by omega)]
          rw [show ((I : Int) - 1 + 1).toNat = I from by omega]
        · rw [w64 (by omega) (by omega)]; omega
  · have : i = -1 := by omega
    subst this
    refine ⟨hn, ?_⟩
    simp only [slAddr, Nat.add_zero, Int.toNat_natCast]
    rw [if_neg (by decide), fill1 (by rw [z40]; rfl) rfl]
    simp only [Option.map_some, add_mk, onO]
    refine fin _ (N * 128 + 0 * 1) d (by simp) ?_
    have : s.look N = s.med N := by rw [← hi3]; rfl
    rw [this]
    refine ⟨d, _, cs, rfl, hb.blk, hb.med N hN, by rw [byV_length, hb.medl, hb.size]; omega⟩

theorem raw_spec {n : Int} (hd : DiskAt h d B s)
    (k0 : ¬ (0 ≤ n ∧ n < 1024) → K (.tuple #[.slice none 0 0, .int .i64 40]) h)
    (k2 : 0 ≤ n ∧ n < 1024 → ∀ h' g, Only (fun _ => False) h h' → h.size ≤ g → Blk h' g (byV (s.med n.toNat)).toArray → K (.tuple #[.slice (some ⟨g, 0, none⟩) 128 128, .int .i64 0]) h') :
    Run tc.P 49 #[.pointer (some ⟨d, 0, none⟩), .int .i64 n] h K := by
  apply L49_run; unfold L49; simp only [onPtr, add_mk, Nat.zero_add]
  refine there_spec ?_
  simp only [onB]
  refine bsel_ndec k0 fun hn => ?_
  obtain ⟨N, rfl⟩ : ∃ N : Nat, n = (N : Int) := ⟨n.toNat, by omega⟩
  have hN : N < 1024 := by omega
  obtain ⟨cap, cs, hb⟩ := id hd
  refine ⟨hn, ?_⟩
  simp only [slAddr, Nat.add_zero, Int.toNat_natCast]
  rw [if_neg (by decide), fill1 (by rw [z40]; rfl) rfl]
  simp only [Option.map_some, add_mk, onO]
  have hnew := Blk.new h [Value.slice (some ⟨d, N * 128 + 0 * 1, none⟩) 128 128].toArray 40
  have hs : SlAt h (some ⟨d, N * 128 + 0 * 1, none⟩) (byV (s.med N)) := ⟨d, _, cs, rfl, hb.blk, hb.med N hN, by rw [byV_length, hb.medl, hb.size]; omega⟩
  refine join_spec (q := some ⟨d, N * 128 + 0 * 1, none⟩) (c := 128) (bs := s.med N) ⟨_, _, _, rfl, hnew, At.all _, by simp⟩ (hs.only ((Only.refl (fun _ => False) _).push _) (fun _ _ => id)) (hb.medl N) ?_
  intro h' ho hsz hblk
  exact k2 hn h' _ (((Only.refl (fun _ => False) _).push _).trans ho (fun _ _ => id)) (by simp) (by simpa using hblk)

end Am
end Go.Proofs.Ytfijmoofdafoiaa
