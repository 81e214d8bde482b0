/-
  The table of extents over a disk: holds, drops, serials; reads, writes, flushes.
-/
import Derived.Test.YtfijmoofdafoiaaAmP
set_option linter.unusedSimpArgs false
set_option linter.unusedVariables false
set_option maxRecDepth 100000
namespace Go.Proofs.Ytfijmoofdafoiaa
open Go
namespace Am

variable {T T' : Nat → Prop} {h h' h'' : Hp} {L : Loc} {B B' : Option Nat} {f f' : Nat → Option ExtS} {s s' : DSt} {K : Value → Hp → Prop}

theorem getPre {n : Int} {Q : Bool → Hp → Hp → Prop} (hx : XAt h L B f s)
    (k0 : getR f n = none → ∀ h4 h9, Only (fun _ => False) h h9 → Q false h4 h9)
    (k1 : ∀ x, getR f n = some x → ∀ h4 h9 : Hp, Only (fun _ => False) h h9 → h.size ≤ h4.size → Blk h9 h4.size (extV x).toArray → Q true h4 h9) :
    ldP h ⟨L.x, 1, none⟩ fun p2 => Run tc.P 39 #[.pointer p2, .int .i64 n] h fun x3 h4 => onTup 0 x3 fun x5 => onAgg x5 fun g6 => onTup 1 x3 fun x7 => onB x7 fun b8 =>
      szIs g6.size 3 (st (h4.push (.cells (zeroOf tc.P 49) 49)) ⟨h4.size, 0, none⟩ g6 fun h9 => Q b8 h4 h9) := by
  refine ldP_at hx.xb rfl (get_spec hx.tab (fun hg h4 ho4 => ?_) fun x hg h4 ho4 => ?_)
  · refine onTup_of rfl ?_
    simp only [onAgg]
    refine onTup_of rfl ?_
    simp only [onB]
    have hb0 := Blk.new h4 (zeroOf tc.P 49) 49
    refine szIs_of rfl (st_at hb0 (by rw [z49]; simp) (fun v hv => by simp at hv; subst hv; rfl) ?_)
    exact k0 hg _ _ ((ho4.push _).set (.inr ho4.1))
  · refine onTup_of rfl ?_
    simp only [onAgg]
    refine onTup_of rfl ?_
    simp only [onB]
    have hb0 := Blk.new h4 (zeroOf tc.P 49) 49
    refine szIs_of rfl (st_at hb0 (by rw [z49]; simp [extV]) (extV_one x) ?_)
    have hs0 : splice (zeroOf tc.P 49) 0 (extV x).toArray = (extV x).toArray := by rw [z49]; rfl
    rw [hs0]
    exact k1 x hg _ _ ((ho4.push _).set (.inr ho4.1)) ho4.1 hb0.setB

def serialF (f : Nat → Option ExtS) (n : Int) : Int × Int := match getR f n with | none => (0, 100) | some x => (x.ser, 0)

theorem serial_spec {n : Int} (hx : XAt h L B f s) (k : ∀ h', Only (fun _ => False) h h' → K (.tuple #[.int .i64 (serialF f n).1, .int .i64 (serialF f n).2]) h') :
    Run tc.P 19 #[.pointer (some ⟨L.x, 0, none⟩), .int .i64 n] h K := by
  apply L19_run; unfold L19; simp only [onPtr, add_mk, Nat.zero_add]
  refine getPre hx (fun hg h4 h9 ho => ?_) fun x hg h4 h9 ho hle hb => ?_
  · have e : serialF f n = (0, 100) := by unfold serialF; rw [hg]
    rw [e] at k
    exact k h9 ho
  · have e : serialF f n = (x.ser, 0) := by unfold serialF; rw [hg]
    rw [e] at k
    refine bsel_nb (fun h0 => by cases h0) fun _ => ?_
    exact ldI_at hb rfl (k h9 ho)

def holdF (f : Nat → Option ExtS) (n : Int) : Int × (Nat → Option ExtS) := match getR f n with | none => (100, f) | some x => (0, upd f n.toNat (some { x with holds := IntKind.i64.wrap (x.holds + 1) }))

theorem hold_spec {n : Int} (hx : XAt h L B f s) (k : ∀ h', Only (tOwn L.t L.S) h h' → XAt h' L B (holdF f n).2 s → K (.int .i64 (holdF f n).1) h') :
    Run tc.P 25 #[.pointer (some ⟨L.x, 0, none⟩), .int .i64 n] h K := by
  apply L25_run; unfold L25; simp only [onPtr, add_mk, Nat.zero_add]
  refine getPre hx (fun hg h4 h9 ho => ?_) fun x hg h4 h9 ho hle hb => ?_
  · have e : holdF f n = (100, f) := by unfold holdF; rw [hg]
    rw [e] at k
    exact k h9 (ho.mono fun _ _ x => x.elim) (hx.fresh ho)
  · have e : holdF f n = (0, upd f n.toNat (some { x with holds := IntKind.i64.wrap (x.holds + 1) })) := by unfold holdF; rw [hg]
    rw [e] at k
    refine bsel_nb (fun h0 => by cases h0) fun _ => ?_
    refine ldI_at hb rfl (st_at hb (by simp [extV]) (one_ok _ rfl) ?_)
    have hs : splice (extV x).toArray 2 #[.int .i64 (IntKind.i64.wrap (x.holds + 1))] = (extV { x with holds := IntKind.i64.wrap (x.holds + 1) }).toArray := rfl
    rw [hs]
    have hb2 := hb.setB (cs' := (extV { x with holds := IntKind.i64.wrap (x.holds + 1) }).toArray)
    have hx2 := hx.fresh (ho.set (g := h4.size) (cs := (extV { x with holds := IntKind.i64.wrap (x.holds + 1) }).toArray) (.inr hle))
    have ho2 := ho.set (g := h4.size) (cs := (extV { x with holds := IntKind.i64.wrap (x.holds + 1) }).toArray) (.inr hle)
    refine ldP_at hx2.xb rfl (ldR_at hb2 (At.all _) rfl (by simp [extV]) ?_)
    refine set_spec hx2.tab hg fun h5 ho5 ht5 => ?_
    exact k h5 ((ho2.mono fun _ _ x => x.elim : Only (tOwn L.t L.S) _ _).trans ho5 fun _ _ x => x) (hx2.tabStep ho5 ht5)

def dropF (f : Nat → Option ExtS) (n : Int) : (Bool × Int) × (Nat → Option ExtS) :=
  match getR f n with
  | none => ((false, 100), f)
  | some x => if IntKind.i64.wrap (x.holds - 1) = 0 then ((true, 0), upd f n.toNat none) else ((false, 0), upd f n.toNat (some { x with holds := IntKind.i64.wrap (x.holds - 1) }))

theorem dropX_spec {n : Int} (hx : XAt h L B f s) (k : ∀ h', Only (tOwn L.t L.S) h h' → XAt h' L B (dropF f n).2 s → K (.tuple #[.bool (dropF f n).1.1, .int .i64 (dropF f n).1.2]) h') :
    Run tc.P 62 #[.pointer (some ⟨L.x, 0, none⟩), .int .i64 n] h K := by
  apply L62_run; unfold L62; simp only [onPtr, add_mk, Nat.zero_add]
  refine getPre hx (fun hg h4 h9 ho => ?_) fun x hg h4 h9 ho hle hb => ?_
  · have e : dropF f n = ((false, 100), f) := by unfold dropF; rw [hg]
    rw [e] at k
    exact k h9 (ho.mono fun _ _ x => x.elim) (hx.fresh ho)
  · refine bsel_nb (fun h0 => by cases h0) fun _ => ?_
    refine ldI_at hb rfl (st_at hb (by simp [extV]) (one_ok _ rfl) ?_)
    have hs : splice (extV x).toArray 2 #[.int .i64 (IntKind.i64.wrap (x.holds - 1))] = (extV { x with holds := IntKind.i64.wrap (x.holds - 1) }).toArray := rfl
    rw [hs]
    have hb2 := hb.setB (cs' := (extV { x with holds := IntKind.i64.wrap (x.holds - 1) }).toArray)
    have ho2 := ho.set (g := h4.size) (cs := (extV { x with holds := IntKind.i64.wrap (x.holds - 1) }).toArray) (.inr hle)
    have hx2 := hx.fresh ho2
    have ho2' : Only (tOwn L.t L.S) h _ := ho2.mono fun _ _ x => x.elim
    refine ldI_at hb2 rfl (bsel_dec (fun h0 => ?_) fun h0 => ?_)
    · have e : dropF f n = ((true, 0), upd f n.toNat none) := by unfold dropF; rw [hg]; simp only; rw [if_pos h0]
      rw [e] at k
      refine ldP_at hx2.xb rfl (drop_spec hx2.tab hg fun v h5 ho5 ht5 => ?_)
      exact k h5 (ho2'.trans ho5 fun _ _ x => x) (hx2.tabStep ho5 ht5)
    · have e : dropF f n = ((false, 0), upd f n.toNat (some { x with holds := IntKind.i64.wrap (x.holds - 1) })) := by unfold dropF; rw [hg]; simp only; rw [if_neg h0]
      rw [e] at k
      refine ldP_at hx2.xb rfl (ldR_at hb2 (At.all _) rfl (by simp [extV]) ?_)
      refine set_spec hx2.tab hg fun h5 ho5 ht5 => ?_
      exact k h5 (ho2'.trans ho5 fun _ _ x => x) (hx2.tabStep ho5 ht5)

/-! ### Sectors -/

def placeF (f : Nat → Option ExtS) (n m : Int) : Int × Int := match getR f n with | none => (0, 100) | some _ => if m < 0 then (0, 40) else if 32 ≤ m then (0, 40) else (n * 32 + m, 0)

theorem placeF_ok {n m : Int} (hp : (placeF f n m).2 = 0) : (∃ x, getR f n = some x) ∧ 0 ≤ n ∧ n < 32 ∧ 0 ≤ m ∧ m < 32 ∧ (placeF f n m).1 = n * 32 + m := by
  unfold placeF at hp ⊢
  cases hg : getR f n with
  | none => rw [hg] at hp; simp at hp
  | some x =>
    obtain ⟨N, rfl, hN, -⟩ := getR_some hg
    rw [hg] at hp
    simp only at hp ⊢
    split at hp
    · simp at hp
    · split at hp
      · simp at hp
      · rw [if_neg (by omega), if_neg (by omega)]
        exact ⟨⟨x, rfl⟩, by omega, by omega, by omega, by omega, rfl⟩

theorem place_spec {n m : Int} (hx : XAt h L B f s) (k : ∀ h', Only (fun _ => False) h h' → K (.tuple #[.int .i64 (placeF f n m).1, .int .i64 (placeF f n m).2]) h') :
    Run tc.P 38 #[.pointer (some ⟨L.x, 0, none⟩), .int .i64 n, .int .i64 m] h K := by
  apply L38_run; unfold L38; simp only [onPtr, add_mk, Nat.zero_add]
  refine getPre hx (fun hg h4 h9 ho => ?_) fun x hg h4 h9 ho hle hb => ?_
  · have e : placeF f n m = (0, 100) := by unfold placeF; rw [hg]
    rw [e] at k
    exact k h9 ho
  · refine bsel_nb (fun h0 => by cases h0) fun _ => ?_
    obtain ⟨N, rfl, hN, -⟩ := getR_some hg
    refine bsel_dec (fun h0 => ?_) fun h0 => bsel_dec (fun h1 => ?_) fun h1 => ?_
    · have e : placeF f N m = (0, 40) := by unfold placeF; rw [hg]; simp only; rw [if_pos h0]
      rw [e] at k; exact k h9 ho
    · have e : placeF f N m = (0, 40) := by unfold placeF; rw [hg]; simp only; rw [if_neg h0, if_pos h1]
      rw [e] at k; exact k h9 ho
    · have e : placeF f N m = (N * 32 + m, 0) := by unfold placeF; rw [hg]; simp only; rw [if_neg h0, if_neg h1]
      rw [e] at k
      rw [w64 (n := (N : Int) * 32) (by omega) (by omega), w64 (by omega) (by omega)]
      exact k h9 ho

theorem mRead : methOf tc 24 "Read" = some 36 := by rfl
theorem mWrite : methOf tc 24 "Write" = some 31 := by rfl
theorem mFlush : methOf tc 24 "Flush" = some 92 := by rfl

theorem invk_of {n : String} {x : Value} {args : Array Value} {g : Nat} (hm : methOf tc 24 n = some g) (hc : tc.ok.contains g = true) (r : Run tc.P g (#[x] ++ args) h K) : invk tc (.iface 24 x) n args h K := by
  simp only [invk, hm, onO]; rw [if_pos hc]; exact r

def xreadE (f : Nat → Option ExtS) (s : DSt) (n m : Int) : Int := if (placeF f n m).2 ≠ 0 then (placeF f n m).2 else if s.down then 42 else 0

theorem xread_spec {n m : Int} (hx : XAt h L B f s) (hl : s.cache.length ≤ 1099511627776)
    (k0 : xreadE f s n m ≠ 0 → ∀ h', Only (fun _ => False) h h' → K (.tuple #[.slice none 0 0, .int .i64 (xreadE f s n m)]) h')
    (k1 : xreadE f s n m = 0 → ∀ h' g, Only (fun _ => False) h h' → h.size ≤ g → Blk h' g (byV (s.look (n * 32 + m).toNat)).toArray → K (.tuple #[.slice (some ⟨g, 0, none⟩) 128 128, .int .i64 0]) h') :
    Run tc.P 15 #[.pointer (some ⟨L.x, 0, none⟩), .int .i64 n, .int .i64 m] h K := by
  apply L15_run; unfold L15; simp only [onPtr, add_mk, Nat.zero_add]
  refine place_spec hx fun h1 ho1 => ?_
  refine onTup_of rfl (onI_of (onTup_of rfl (onI_of ?_)))
  refine bsel_ndec (fun h0 => ?_) fun h0 => ?_
  · have e : xreadE f s n m = (placeF f n m).2 := by unfold xreadE; rw [if_pos h0]
    rw [e] at k0; exact k0 h0 h1 ho1
  obtain ⟨hg, hn0, hn1, hm0, hm1, hp⟩ := placeF_ok h0
  have hx1 := hx.fresh ho1
  refine ld1_at (m := .iface 24 (.pointer (some ⟨L.d, 0, none⟩))) hx1.xb rfl (invk_of mRead (by decide) ?_)
  have hr : 0 ≤ (placeF f n m).1 ∧ (placeF f n m).1 < 1024 := by omega
  refine read_spec (n := (placeF f n m).1) hx1.disk hl (fun h2 => absurd hr h2) (fun _ h2 => ?_) fun _ h2 h3 g ho3 hg3 hb3 => ?_
  · have e : xreadE f s n m = 42 := by unfold xreadE; rw [if_neg (by simpa using h0), h2]; rfl
    refine onTup_of rfl ?_
    simp only [onSl]
    refine onTup_of rfl (onI_of ?_)
    rw [e] at k0; exact k0 (by decide) h1 ho1
  · have e : xreadE f s n m = 0 := by unfold xreadE; rw [if_neg (by simpa using h0), h2]; rfl
    refine onTup_of rfl ?_
    simp only [onSl]
    refine onTup_of rfl (onI_of ?_)
    rw [hp] at hb3
    exact k1 e h3 g (ho1.trans ho3 fun _ _ x => x) (by have := ho1.1; omega) hb3

def xwriteF (f : Nat → Option ExtS) (s : DSt) (n m : Int) (bs : List UInt8) : Int × DSt := if (placeF f n m).2 ≠ 0 then ((placeF f n m).2, s) else s.write (n * 32 + m) bs

theorem xwrite_spec {n m : Int} {p : Option Addr} {bs : List UInt8} {c : Nat} (hx : XAt h L B f s) (hl : s.cache.length ≤ 1099511627) (hp : SlAt h p (byV bs)) (hpd : Off p (Od L.d))
    (k : ∀ h' B', Only (dOwn L.d B) h h' → XAt h' L B' f (xwriteF f s n m bs).2 → (∀ b, B' = some b → B = some b ∨ h.size ≤ b) → K (.int .i64 (xwriteF f s n m bs).1) h') :
    Run tc.P 13 #[.pointer (some ⟨L.x, 0, none⟩), .int .i64 n, .int .i64 m, .slice p bs.length c] h K := by
  apply L13_run; unfold L13; simp only [onPtr, add_mk, Nat.zero_add]
  refine place_spec hx fun h1 ho1 => ?_
  refine onTup_of rfl (onI_of (onTup_of rfl (onI_of ?_)))
  have hx1 := hx.fresh ho1
  have hod : Only (dOwn L.d B) h h1 := ho1.mono fun _ _ x => x.elim
  refine bsel_ndec (fun h0 => ?_) fun h0 => ?_
  · have e : xwriteF f s n m bs = ((placeF f n m).2, s) := by unfold xwriteF; rw [if_pos h0]
    rw [e] at k; exact k h1 B hod hx1 fun _ hb => .inl hb
  obtain ⟨hg, hn0, hn1, hm0, hm1, hpl⟩ := placeF_ok h0
  refine ld1_at (m := .iface 24 (.pointer (some ⟨L.d, 0, none⟩))) hx1.xb rfl (invk_of mWrite (by decide) ?_)
  have e : xwriteF f s n m bs = s.write (placeF f n m).1 bs := by unfold xwriteF; rw [if_neg (by simpa using h0), hpl]
  rw [e] at k
  refine write_spec (n := (placeF f n m).1) hx1.disk hl (hp.only ho1 fun _ _ => id) hpd fun h2 B' ho2 hd2 hB2 => ?_
  refine onI_of ?_
  exact k h2 B' (hod.trans ho2 fun _ _ x => x) (hx1.diskStep ho2 hd2 hB2) fun b hb => by
    rcases hB2 b hb with k | k
    · exact .inl k
    · exact .inr (by have := ho1.1; omega)

theorem xflush_spec (hx : XAt h L B f s) (hl : s.cache.length ≤ 1099511627776)
    (k : ∀ h' B', Only (Od L.d) h h' → XAt h' L B' f s.flush.2 → (B' = B ∨ B' = none) → K (.int .i64 s.flush.1) h') : Run tc.P 22 #[.pointer (some ⟨L.x, 0, none⟩)] h K := by
  apply L22_run; unfold L22; simp only [onPtr, add_mk, Nat.zero_add]
  refine ld1_at (m := .iface 24 (.pointer (some ⟨L.d, 0, none⟩))) hx.xb rfl (invk_of mFlush (by decide) ?_)
  refine flush_spec hx.disk hl fun h2 B' ho2 hd2 hB => ?_
  refine onI_of ?_
  exact k h2 B' ho2 (hx.diskStep (ho2.mono fun _ _ x => .inl x) hd2 fun b hb => by
    rcases hB with rfl | rfl
    · exact .inl hb
    · cases hb) hB

end Am
end Go.Proofs.Ytfijmoofdafoiaa
