/-
  The table of extents over a disk: its functions.
-/
import Derived.Test.YtfijmoofdafoiaaAmO
set_option linter.unusedSimpArgs false
set_option linter.unusedVariables false
set_option maxRecDepth 100000
namespace Go.Proofs.Ytfijmoofdafoiaa
open Go
namespace Am

structure Loc where
  x : Nat
  d : Nat
  t : Nat
  S : Nat

structure XAt (h : Hp) (L : Loc) (B : Option Nat) (f : Nat → Option ExtS) (s : DSt) : Prop where
  xb : Blk h L.x #[.iface 24 (.pointer (some ⟨L.d, 0, none⟩)), .pointer (some ⟨L.t, 0, none⟩)]
  tab : TabAt h L.t L.S f
  disk : DiskAt h L.d B s
  xt : L.x ≠ L.t
  xS : L.x ≠ L.S
  xd : L.x ≠ L.d
  dt : L.d ≠ L.t
  dS : L.d ≠ L.S
  nB : ∀ b, B = some b → b ≠ L.x ∧ b ≠ L.t ∧ b ≠ L.S

/-- All the blocks of a table and of its disk. -/
def xOwn (L : Loc) (B : Option Nat) (b : Nat) : Prop := b = L.x ∨ tOwn L.t L.S b ∨ dOwn L.d B b

variable {T T' : Nat → Prop} {h h' h'' : Hp} {L : Loc} {B B' : Option Nat} {f f' : Nat → Option ExtS} {s s' : DSt} {K : Value → Hp → Prop}

theorem XAt.only (hx : XAt h L B f s) (ho : Only T h h') (hn : ∀ b, xOwn L B b → ¬ T b) : XAt h' L B f s :=
  ⟨hx.xb.only ho (hn _ (.inl rfl)), hx.tab.only ho (fun b hb => hn b (.inr (.inl hb))), hx.disk.only ho (fun b hb => hn b (.inr (.inr hb))), hx.xt, hx.xS, hx.xd, hx.dt, hx.dS, hx.nB⟩
theorem XAt.fresh (hx : XAt h L B f s) (ho : Only (fun _ => False) h h') : XAt h' L B f s := hx.only ho fun _ _ => id
theorem XAt.lt (hx : XAt h L B f s) {b : Nat} (hb : xOwn L B b) : b < h.size := by
  rcases hb with rfl | (rfl | rfl) | (rfl | hb)
  · exact hx.xb.lt
  · exact hx.tab.lt.1
  · exact hx.tab.lt.2
  · exact hx.disk.lt
  · exact hx.disk.ltB hb
theorem XAt.tabStep (hx : XAt h L B f s) (ho : Only (tOwn L.t L.S) h h') (ht : TabAt h' L.t L.S f') : XAt h' L B f' s := by
  refine ⟨hx.xb.only ho ?_, ht, hx.disk.only ho fun b hb => ?_, hx.xt, hx.xS, hx.xd, hx.dt, hx.dS, hx.nB⟩
  · rintro (k | k)
    · exact hx.xt k
    · exact hx.xS k
  · rcases hb with rfl | hb
    · rintro (k | k)
      · exact hx.dt k
      · exact hx.dS k
    · rintro (k | k)
      · exact (hx.nB b hb).2.1 k
      · exact (hx.nB b hb).2.2 k
theorem XAt.diskStep (hx : XAt h L B f s) (ho : Only (dOwn L.d B) h h') (hd : DiskAt h' L.d B' s') (hB : ∀ b, B' = some b → B = some b ∨ h.size ≤ b) : XAt h' L B' f s' := by
  have h1 : ¬ dOwn L.d B L.x := by
    rintro (k | k)
    · exact hx.xd k
    · exact (hx.nB _ k).1 rfl
  have h2 : ¬ dOwn L.d B L.t := by
    rintro (k | k)
    · exact hx.dt k.symm
    · exact (hx.nB _ k).2.1 rfl
  have h3 : ¬ dOwn L.d B L.S := by
    rintro (k | k)
    · exact hx.dS k.symm
    · exact (hx.nB _ k).2.2 rfl
  refine ⟨hx.xb.only ho h1, hx.tab.only ho fun b hb => ?_, hd, hx.xt, hx.xS, hx.xd, hx.dt, hx.dS, fun b hb => ?_⟩
  · rcases hb with rfl | rfl
    · exact h2
    · exact h3
  · rcases hB b hb with k | k
    · exact hx.nB b k
    · have := hx.xb.lt; have := hx.tab.lt
      exact ⟨by omega, by omega, by omega⟩

theorem onTup_of {i : Nat} {vs : Array Value} {x : Value} {Q : Value → Prop} (hx : vs[i]? = some x) (q : Q x) : onTup i (.tuple vs) Q := by
  simp only [onTup, hx]; exact q
theorem onI_of {k : IntKind} {n : Int} {Q : Int → Prop} (q : Q n) : onI k (.int k n) Q := by simp only [onI, if_true]; exact q

/-! ### New -/

theorem fill49 (a b c : Int) : fillL (zeroOf tc.P 49).toList [(0, 1, (.int .i64 a)), (1, 1, (.int .i64 b)), (2, 1, (.int .i64 c))] = some (extV ⟨a, b, c⟩) := by rw [z49]; rfl

theorem z32cells : (zerosN (zeroOf tc.P 108) (32 * 4)).size = 128 ∧ ∀ i, i < 32 → CellIs (zerosN (zeroOf tc.P 108) (32 * 4)) i none := by
  rw [z108]
  refine ⟨by simp [zerosN], fun i hi => ⟨⟨0, 0, 0⟩, ?_⟩⟩
  intro j x hj
  have hj4 : j < 4 := by have := (List.getElem?_eq_some_iff.1 hj).1; simpa [extV] using this
  have : i * 4 + j < 128 := by omega
  simp only [zerosN]
  rw [Array.getElem?_map, Array.getElem?_range, if_pos (by omega)]
  simp only [Option.map_some]
  have e : (i * 4 + j) % 4 = j := by omega
  show some (#[Value.bool false, .int .i64 0, .int .i64 0, .int .i64 0][(i * 4 + j) % 4]!) = some x
  rw [e]
  match j, hj4 with
  | 0, _ => simpa using hj
  | 1, _ => simpa [extV] using hj
  | 2, _ => simpa [extV] using hj
  | 3, _ => simpa [extV] using hj

theorem tabNew_spec (k : ∀ h', Only (fun _ => False) h h' → h'.size = h.size + 2 → TabAt h' (h.size + 1) h.size (fun _ => none) → K (.pointer (some ⟨h.size + 1, 0, none⟩)) h') : Run tc.P 32 #[.int .i64 32] h K := by
  apply L32_run; unfold L32
  simp only [mkSl, onI, if_true]
  refine ⟨by decide, ?_⟩
  have e : (if (4096 : Int) < (if (32 : Int) < 0 then 0 else 32) then (4096 : Int) else (if (32 : Int) < 0 then 0 else 32)).toNat = 32 := by decide
  rw [e]
  rw [if_neg (by decide)]
  have hf : fillL (zeroOf tc.P 106).toList [(0, 1, .slice (some ⟨h.size, 0, none⟩) 32 32)] = some [.slice (some ⟨h.size, 0, none⟩) 32 32, .int .i64 0, .int .i64 0] := by rw [z106]; rfl
  rw [hf]
  simp only [onO]
  have hs := Blk.new h (zerosN (zeroOf tc.P 108) (32 * 4)) 108
  have hsz : (h.push (.cells (zerosN (zeroOf tc.P 108) (32 * 4)) 108)).size = h.size + 1 := by simp
  have := k _ (((Only.refl _ h).push (.cells (zerosN (zeroOf tc.P 108) (32 * 4)) 108)).push (.cells [.slice (some ⟨h.size, 0, none⟩) 32 32, .int .i64 0, .int .i64 0].toArray 106)) (by simp)
    ⟨zerosN (zeroOf tc.P 108) (32 * 4), 0, 0, by rw [← hsz]; exact Blk.new _ _ _, hs.push _, z32cells.1, z32cells.2, by omega, by omega, fun i hi => by omega⟩
  simpa using this

theorem extNew_spec {d : Nat} (hd : DiskAt h d B s) (k : ∀ h' L, Only (fun _ => False) h h' → L.d = d → h.size ≤ L.x → h.size ≤ L.t → h.size ≤ L.S → XAt h' L B (fun _ => none) s → K (.pointer (some ⟨L.x, 0, none⟩)) h') :
    Run tc.P 8 #[.pointer (some ⟨d, 0, none⟩)] h K := by
  apply L8_run; unfold L8
  refine ⟨.inr rfl, ?_⟩
  refine bsel_b (fun e => by cases e) fun _ => ?_
  refine tabNew_spec fun h1 ho1 hs1 ht1 => ?_
  simp only [onP]
  have hf : fillL (zeroOf tc.P 76).toList [(0, 1, .iface 24 (.pointer (some ⟨d, 0, none⟩))), (1, 1, .pointer (some ⟨h.size + 1, 0, none⟩))] = some [.iface 24 (.pointer (some ⟨d, 0, none⟩)), .pointer (some ⟨h.size + 1, 0, none⟩)] := by
    have : zeroOf tc.P 76 = #[.nilIface, .pointer none] := by kernel_rfl
    rw [this]; rfl
  rw [hf]
  simp only [onO]
  have ho2 : Only (fun _ => False) h1 (h1.push (.cells [.iface 24 (.pointer (some ⟨d, 0, none⟩)), .pointer (some ⟨h.size + 1, 0, none⟩)].toArray 76)) := (Only.refl _ _).push _
  have hlt := hd.lt
  refine k _ ⟨h1.size, d, h.size + 1, h.size⟩ (ho1.trans ho2 fun _ _ x => x) rfl (by show h.size ≤ h1.size; omega) (by show h.size ≤ h.size + 1; omega) (Nat.le_refl _) ⟨Blk.new _ _ _, ht1.only ho2 (fun _ _ => id), hd.only (ho1.trans ho2 fun _ _ x => x) (fun _ _ => id), ?_, ?_, ?_, ?_, ?_, ?_⟩
  · show h1.size ≠ h.size + 1; omega
  · show h1.size ≠ h.size; omega
  · show h1.size ≠ d; omega
  · show d ≠ h.size + 1; omega
  · show d ≠ h.size; omega
  · intro b hb
    have := hd.ltB hb
    exact ⟨by show b ≠ h1.size; omega, by show b ≠ h.size + 1; omega, by show b ≠ h.size; omega⟩

/-! ### Claim -/

def lowest (f : Nat → Option ExtS) : Option Nat := (List.range 32).find? fun i => (f i).isNone

theorem IsLow.lowest {N : Nat} (hl : IsLow f N) : lowest f = some N := by
  unfold Am.lowest
  rw [List.find?_range_eq_some]
  exact ⟨by rw [hl.2.1]; rfl, by simpa using hl.1, fun j hj => by have := hl.2.2 j hj; cases hfj : f j <;> simp_all⟩
theorem lowest_none (hl : ∀ i, i < 32 → (f i).isSome = true) : lowest f = none := by
  unfold Am.lowest
  rw [List.find?_eq_none]
  intro i hi
  have := hl i (by simpa using hi)
  cases hfi : f i <;> simp_all

def claimF (f : Nat → Option ExtS) (n ser : Int) : (Int × Int) × (Nat → Option ExtS) :=
  if ser < 1 then ((-1, 1), f) else if 4611686018427387903 < ser then ((-1, 1), f)
  else if n = -1 then (match lowest f with | none => ((-1, 2), f) | some N => (((N : Int), 0), upd f N (some ⟨N, ser, 1⟩)))
  else if n < 0 then ((-1, 100), f) else if 32 ≤ n then ((-1, 100), f)
  else match f n.toNat with | some _ => ((-1, 101), f) | none => ((n, 0), upd f n.toNat (some ⟨n, ser, 1⟩))

theorem upd_upd {α : Type} (m : Nat → α) (n : Nat) (x y : α) : upd (upd m n x) n y = upd m n y := by
  funext i; unfold upd; split <;> rfl

theorem claim_spec {n ser : Int} (hx : XAt h L B f s) (k : ∀ h', Only (tOwn L.t L.S) h h' → XAt h' L B (claimF f n ser).2 s → K (.tuple #[.int .i64 (claimF f n ser).1.1, .int .i64 (claimF f n ser).1.2]) h') :
    Run tc.P 9 #[.pointer (some ⟨L.x, 0, none⟩), .int .i64 n, .int .i64 ser] h K := by
  apply L9_run; unfold L9; simp only [onPtr, add_mk, Nat.zero_add]
  refine bsel_dec (fun h0 => ?_) fun h0 => ?_
  · have e : claimF f n ser = ((-1, 1), f) := by unfold claimF; rw [if_pos h0]
    rw [e] at k; exact k h (Only.refl _ _) hx
  refine bsel_dec (fun hs => ?_) fun hs => ?_
  · have e : claimF f n ser = ((-1, 1), f) := by unfold claimF; rw [if_neg h0, if_pos hs]
    rw [e] at k; exact k h (Only.refl _ _) hx
  rw [fill49]
  simp only [onO]
  have hb0 := Blk.new h (zeroOf tc.P 49) 49
  refine szIs_of rfl (st_at hb0 (by rw [z49]; simp [extV]) (extV_one _) ?_)
  have hs0 : splice (zeroOf tc.P 49) 0 (extV ⟨n, ser, 1⟩).toArray = (extV ⟨n, ser, 1⟩).toArray := by rw [z49]; rfl
  rw [hs0]
  have hb1 := hb0.setB (cs' := (extV ⟨n, ser, 1⟩).toArray)
  have ho1 : Only (fun _ => False) h (setB (h.push (.cells (zeroOf tc.P 49) 49)) h.size (extV ⟨n, ser, 1⟩).toArray) := ((Only.refl _ _).push _).set (.inr (Nat.le_refl _))
  have hx1 := hx.fresh ho1
  have hot : Only (tOwn L.t L.S) h (setB (h.push (.cells (zeroOf tc.P 49) 49)) h.size (extV ⟨n, ser, 1⟩).toArray) := ho1.mono fun _ _ x => x.elim
  have hlt := hx.tab.lt
  generalize setB (h.push (.cells (zeroOf tc.P 49) 49)) h.size (extV ⟨n, ser, 1⟩).toArray = h1 at *
  refine bsel_dec (fun h2 => ?_) fun h2 => ?_
  · subst h2
    refine ldP_at hx1.xb rfl (ldR_at hb1 (At.all _) rfl (by simp [extV]) ?_)
    refine put_spec hx1.tab (fun hfull h2 ho2 ht2 => ?_) fun N hN h2 ho2 ht2 => ?_
    · refine onTup_of rfl (onI_of (onTup_of rfl (onI_of ?_)))
      refine bsel_ndec (fun _ => ?_) fun h3 => absurd h3 (by decide)
      have e : claimF f (-1) ser = ((-1, 2), f) := by unfold claimF; rw [if_neg h0, if_neg (by omega), if_pos rfl, lowest_none hfull]
      rw [e] at k; exact k h2 (hot.trans ho2 fun _ _ x => x) (hx1.tabStep ho2 ht2)
    · have hx2 := hx1.tabStep ho2 ht2
      refine onTup_of rfl (onI_of (onTup_of rfl (onI_of ?_)))
      refine bsel_ndec (fun h3 => (h3 rfl).elim) fun _ => ?_
      have hb2 := hb1.only ho2 (by rintro (k | k) <;> omega)
      refine st_at hb2 (by simp [extV]) (one_ok _ rfl) ?_
      have hs1 : splice (extV ⟨-1, ser, 1⟩).toArray 0 #[.int .i64 (N : Int)] = (extV ⟨N, ser, 1⟩).toArray := rfl
      rw [hs1]
      have hb3 := hb2.setB (cs' := (extV ⟨N, ser, 1⟩).toArray)
      have hox : Only (fun b => b = h.size) h2 (setB h2 h.size (extV ⟨N, ser, 1⟩).toArray) := (Only.refl _ _).set (.inl rfl)
      have hx3 := hx2.only hox fun b hb => by have := hx.lt hb; show ¬ b = h.size; omega
      refine ldP_at hx3.xb rfl (ldR_at hb3 (At.all _) rfl (by simp [extV]) ?_)
      have hgr : getR (upd f N (some ⟨-1, ser, 1⟩)) (N : Int) = some ⟨-1, ser, 1⟩ := by
        unfold getR; have := hN.1; rw [if_pos (by omega)]; simp [upd]
      refine set_spec hx3.tab hgr fun h4 ho4 ht4 => ?_
      simp only [onB]
      have hx4 := hx3.tabStep ho4 ht4
      have e : claimF f (-1) ser = (((N : Int), 0), upd f N (some ⟨N, ser, 1⟩)) := by unfold claimF; rw [if_neg h0, if_neg (by omega), if_pos rfl, hN.lowest]
      rw [e] at k
      simp only [Int.toNat_natCast, upd_upd] at hx4
      refine k h4 (((hot.trans ho2 fun _ _ x => x).set (.inr (Nat.le_refl _))).trans ho4 fun _ _ x => x) hx4
  refine bsel_dec (fun h3 => ?_) fun h3 => ?_
  · have e : claimF f n ser = ((-1, 100), f) := by unfold claimF; rw [if_neg h0, if_neg hs, if_neg h2, if_pos h3]
    rw [e] at k; exact k h1 hot hx1
  refine bsel_dec (fun h4 => ?_) fun h4 => ?_
  · have e : claimF f n ser = ((-1, 100), f) := by unfold claimF; rw [if_neg h0, if_neg hs, if_neg h2, if_neg h3, if_pos h4]
    rw [e] at k; exact k h1 hot hx1
  refine ldP_at hx1.xb rfl (ldR_at hb1 (At.all _) rfl (by simp [extV]) ?_)
  obtain ⟨N, rfl⟩ : ∃ N : Nat, n = (N : Int) := ⟨n.toNat, by omega⟩
  refine putAt_spec hx1.tab (by omega) (fun hf h5 ho5 => ?_) fun hf h5 ho5 ht5 => ?_
  · refine onI_of ?_
    refine bsel_ndec (fun _ => ?_) fun h6 => absurd h6 (by decide)
    obtain ⟨y, hy⟩ := Option.isSome_iff_exists.1 hf
    have e : claimF f N ser = ((-1, 101), f) := by unfold claimF; rw [if_neg h0, if_neg hs, if_neg h2, if_neg h3, if_neg h4, Int.toNat_natCast, hy]
    rw [e] at k; exact k h5 (hot.trans ho5 fun _ _ x => x.elim) (hx1.fresh ho5)
  · refine onI_of ?_
    refine bsel_ndec (fun h6 => (h6 rfl).elim) fun _ => ?_
    have e : claimF f N ser = (((N : Int), 0), upd f N (some ⟨N, ser, 1⟩)) := by unfold claimF; rw [if_neg h0, if_neg hs, if_neg h2, if_neg h3, if_neg h4, Int.toNat_natCast, hf]
    rw [e] at k; exact k h5 (hot.trans ho5 fun _ _ x => x) (hx1.tabStep ho5 ht5)

end Am
end Go.Proofs.Ytfijmoofdafoiaa
