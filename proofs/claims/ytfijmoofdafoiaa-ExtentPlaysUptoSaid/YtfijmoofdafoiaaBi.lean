/-
  ExtentPlays: its function returns true: the walk.
-/
import Derived.Test.YtfijmoofdafoiaaBh
set_option linter.unusedSimpArgs false
set_option linter.unusedVariables false
set_option maxRecDepth 100000
namespace Go.Proofs.Ytfijmoofdafoiaa
open Go Go.RowKit
namespace Am

variable {T T' : Nat → Prop} {h h' h'' h0 : Hp} {s s' u u' : DSt} {f f' g g' : Nat → Option ExtS} {K : Value → Hp → Prop}
variable {lab : Nat → Nat} {d r m m' j : Nat} {B B' : Option Nat} {A C : Sd}

theorem extNew_nil (k : K (.pointer none) h) : Run tc.P 8 #[.pointer none] h K := by
  apply L8_run; unfold L8
  exact ⟨.inl rfl, bsel_true rfl k⟩

theorem z67 : zeroOf tc.P 67 = #[.int .i64 0, .bool false, .int .i64 0, .int .i64 0, .int .i64 0, .int .u8 0, .int .i64 0, .slice none 0 0] := by kernel_rfl

theorem rAt_row {p : Option Addr} {os : List OpS} (hr : RAt h p (os.flatMap opV)) {i : Nat} {o : OpS} (hi : os[i]? = some o) : ∃ a, p = some a ∧ rowH h (a.add (i * 8)) 8 = some (opV o).toArray := by
  have hat := At.flat (f := opV) (n := 8) (l := os) (o := 0) (fun e _ => rfl) (At.all (os.flatMap opV)) hi
  have hat' : ∀ j x, (opV o)[j]? = some x → (os.flatMap opV)[i * 8 + j]? = some x := fun j x hj => by
    have := hat j x hj
    simpa using this
  obtain ⟨a, rfl, -⟩ := hr _ _ (hat' 0 _ rfl)
  refine ⟨a, rfl, ?_⟩
  have : RAt h (some (a.add (i * 8))) (opV o) := fun j x hj => by
    obtain ⟨a', e, hc⟩ := hr _ _ (hat' j x hj)
    cases e
    exact ⟨_, rfl, by rw [Addr.add_add]; exact hc⟩
  exact this.rowAt

/-- A new table, and the reference's beside it, in the first one's place. -/
theorem Duo.newA {h2 h3 : Hp} {L : Am.Loc} {t : Nat} (hD : Duo h0 h lab d B s u r m A C) (ho2 : Only (fun _ => False) h h2) (hLd : L.d = d) (hLx : h.size ≤ L.x) (hLt : h.size ≤ L.t) (hLS : h.size ≤ L.S) (hx2 : XAt h2 L B (fun _ => none) s)
    (ho3 : Only (fun _ => False) h2 h3) (hr : RTabAt h3 (fun b => h2.size ≤ b) t r 0 (fun _ => none)) : Duo h0 h3 (relab h2 (relab h lab A.i) (A.i + 1)) d B s u r m ⟨L, fun _ => none, fun _ => none, t, A.i⟩ C := by
  have hij := hD.ij
  have hld := hD.ltd
  have hs2 := ho2.1
  have hs0 := hD.only.1
  have hlx := hx2.lt (b := L.x) (.inl rfl)
  have hlt := hx2.lt (b := L.t) (.inr (.inl (.inl rfl)))
  have hlS := hx2.lt (b := L.S) (.inr (.inl (.inr rfl)))
  have hF : ∀ j b, (fun _ : Nat => False) b → relab h lab j b = j := fun _ _ k => k.elim
  have hc2 := hD.c.away (j := A.i) hD.ld hD.lB ho2 (fun _ k => k.elim) (by omega) (by omega) (by omega)
  have ld2 : relab h lab A.i d = 5 := by rw [relab_lt hld]; exact hD.ld
  have lB2 := hD.keepB A.i
  refine ⟨(hD.only.trans ho2 fun _ _ x => x).trans ho3 fun _ _ x => x, fun b hb => ?_, ⟨hx2.fresh ho3, hLd, ?_, ?_, ?_, ?_⟩, hc2.away (j := A.i + 1) ld2 lB2 ho3 (fun _ k => k.elim) (by omega) (by omega) (by omega), hD.ij, ?_, fun b hb => ?_, ?_, hD.clen⟩
  · rw [relab_lt (by omega), relab_lt (by omega)]; exact hD.old b hb
  · rw [relab_lt hlx, relab_ge hLx]
  · rw [relab_lt hlt, relab_ge hLt]
  · rw [relab_lt hlS, relab_ge hLS]
  · exact (hr.mono fun b _ hb => relab_ge hb).more (Nat.zero_le _)
  · rw [relab_lt (by omega)]; exact ld2
  · have := hD.ltB hb
    rw [relab_lt (by omega)]; exact lB2 b hb
  · exact (hD.rd.away (j := A.i) ho2 (fun _ k => k.elim) (by omega)).away (j := A.i + 1) ho3 (fun _ k => k.elim) (by omega)

/-- A row of the script, laid into a block of its own. -/
theorem op_copy {o : OpS} {Q : Hp → Prop} (k : ∀ h', Only (fun _ => False) h h' → Blk h' h.size (opV o).toArray → Q h') :
    szIs (opV o).toArray.size 8 (st (h.push (.cells (zeroOf tc.P 67) 67)) (Addr.mk h.size 0 none) (opV o).toArray Q) := by
  refine szIs_of rfl ?_
  have hb0 := Blk.new h (zeroOf tc.P 67) 67
  refine st_at hb0 (by rw [z67]; show 0 + 8 ≤ 8; omega) (fun v hv => opV_one o v (by simpa using hv)) ?_
  have hs0 : splice (zeroOf tc.P 67) 0 (opV o).toArray = (opV o).toArray := by rw [z67]; rfl
  rw [hs0]
  exact k _ (((Only.refl _ _).push _).set (.inr (Nat.le_refl _))) hb0.setB

theorem fill67 (a b : Int) : fillL (zeroOf tc.P 67).toList [(0, 1, (.int .i64 a)), (3, 1, (.int .i64 b))] = some (opV ⟨a, false, 0, b, 0, 0, 0, none, [], 0⟩) := by rw [z67]; rfl
theorem fill67' (a : Int) : fillL (zeroOf tc.P 67).toList [(0, 1, (.int .i64 a))] = some (opV ⟨a, false, 0, 0, 0, 0, 0, none, [], 0⟩) := by rw [z67]; rfl
theorem opOk_plain (h : Hp) (a b : Int) : OpOk h ⟨a, false, 0, b, 0, 0, 0, none, [], 0⟩ := ⟨fun j x hj => by simp at hj, by simp, show (0 : Int) ≤ _ by decide⟩

def oA (b : Nat) : Option Addr := some ⟨b, 0, none⟩

set_option maxHeartbeats 4000000 in
theorem plays_spec {p0 : Option Addr} {os : List OpS} {c0 : Nat} (hrow : RAt h p0 (os.flatMap opV)) (hok : ∀ o ∈ os, OpOk h o) (hl : os.length ≤ 1048576) (k : ∀ h', Only (fun _ => False) h h' → K (.bool true) h') :
    Run tc.P 6 #[.slice p0 os.length c0] h K := by
  apply L6_run; unfold L6
  refine new_spec fun h1 ho1 hd1 => ?_
  simp only [onP]
  refine ⟨by simp, bsel_b (fun e => by cases e) fun _ => ?_⟩
  refine extNew_nil ?_
  try simp only [onP]
  refine ⟨by simp, bsel_nb (fun e => by cases e) fun _ => ?_⟩
  refine extNew_spec hd1 fun h2 L1 ho2 hLd1 hLx1 hLt1 hLS1 hx2 => ?_
  simp only [onP]
  refine extNew_spec (hd1.only ho2 fun _ _ => id) fun h3 L2 ho3 hLd2 hLx2 hLt2 hLS2 hx3 => ?_
  simp only [onP]
  refine ⟨by simp, bsel_b (fun e => by cases e) fun _ => ⟨by simp, bsel_b (fun e => by cases e) fun _ => ?_⟩⟩
  refine rnew_spec fun h4 ho4 hrd4 hs4 => ?_
  simp only [onP]
  refine rtnew_spec fun h5 ho5 hrt5 hs5 => ?_
  simp only [onP]
  refine rtnew_spec fun h6 ho6 hrt6 hs6 => ?_
  simp only [onP]
  have z01 := hd1.lt
  have z12 := ho2.1
  have z23 := ho3.1
  obtain ⟨lab, hlab⟩ : ∃ lab : Nat → Nat, lab = fun b => if b < h.size then 0 else if b < h1.size then 5 else if b < h2.size then 1 else if b < h3.size then 3 else if b < h4.size then 6 else if b < h5.size then 2 else 4 := ⟨_, rfl⟩
  have l0 : ∀ b, b < h.size → lab b = 0 := fun b x => by rw [hlab]; simp only; rw [if_pos x]
  have l5 : ∀ b, h.size ≤ b → b < h1.size → lab b = 5 := fun b x y => by rw [hlab]; simp only; rw [if_neg (by omega), if_pos y]
  have l1 : ∀ b, h1.size ≤ b → b < h2.size → lab b = 1 := fun b x y => by rw [hlab]; simp only; rw [if_neg (by omega), if_neg (by omega), if_pos y]
  have l3 : ∀ b, h2.size ≤ b → b < h3.size → lab b = 3 := fun b x y => by rw [hlab]; simp only; rw [if_neg (by omega), if_neg (by omega), if_neg (by omega), if_pos y]
  have l6 : ∀ b, h3.size ≤ b → b < h4.size → lab b = 6 := fun b x y => by rw [hlab]; simp only; rw [if_neg (by omega), if_neg (by omega), if_neg (by omega), if_neg (by omega), if_pos y]
  have l2 : ∀ b, h4.size ≤ b → b < h5.size → lab b = 2 := fun b x y => by rw [hlab]; simp only; rw [if_neg (by omega), if_neg (by omega), if_neg (by omega), if_neg (by omega), if_neg (by omega), if_pos y]
  have l4 : ∀ b, h5.size ≤ b → lab b = 4 := fun b x => by rw [hlab]; simp only; rw [if_neg (by omega), if_neg (by omega), if_neg (by omega), if_neg (by omega), if_neg (by omega), if_neg (by omega)]
  have hbase : Duo h h6 lab h.size none DSt.init DSt.init h3.size 0 ⟨L1, fun _ => none, fun _ => none, h4.size, 1⟩ ⟨L2, fun _ => none, fun _ => none, h5.size, 3⟩ := by
    have x1 := (((hx2.fresh ho3).fresh ho4).fresh ho5).fresh ho6
    have x2 := ((hx3.fresh ho4).fresh ho5).fresh ho6
    refine ⟨((((ho1.trans ho2 fun _ _ x => x).trans ho3 fun _ _ x => x).trans ho4 fun _ _ x => x).trans ho5 fun _ _ x => x).trans ho6 fun _ _ x => x, l0,
      ⟨x1, hLd1, l1 _ hLx1 (hx2.lt (.inl rfl)), l1 _ hLt1 (hx2.lt (.inr (.inl (.inl rfl)))), l1 _ hLS1 (hx2.lt (.inr (.inl (.inr rfl)))), (hrt5.mono fun b hb hge => l2 b hge hb).only ho6 fun _ _ => id⟩,
      ⟨x2, hLd2, l3 _ hLx2 (hx3.lt (.inl rfl)), l3 _ hLt2 (hx3.lt (.inr (.inl (.inl rfl)))), l3 _ hLS2 (hx3.lt (.inr (.inl (.inr rfl)))), hrt6.mono fun b hb hge => l4 b hge⟩,
      .inl ⟨rfl, rfl⟩, l5 _ (Nat.le_refl _) z01, fun b hb => (by cases hb), ((hrd4.mono fun b hb hge => l6 b hge hb).only ho5 fun _ _ => id).only ho6 fun _ _ => id, Nat.zero_le _⟩
  clear l0 l5 l1 l3 l6 l2 l4 hlab
  refine ⟨fun st g => ∃ (I : Nat) (lab : Nat → Nat) (B : Option Nat) (s : DSt) (A C : Sd), st.1 = some ⟨A.L.x, 0, none⟩ ∧ st.2.1 = some ⟨C.L.x, 0, none⟩ ∧ st.2.2.1 = some ⟨A.t, 0, none⟩ ∧ st.2.2.2.1 = some ⟨C.t, 0, none⟩ ∧ st.2.2.2.2.1 = (I : Int) ∧ I ≤ os.length ∧
      Duo h g lab h.size B s s h3.size (2 * I) A C ∧ A.g = A.f ∧ C.g = C.f, fun st _ => ((os.length : Int) - st.2.2.2.2.1).toNat, ⟨0, lab, none, DSt.init, _, _, rfl, rfl, rfl, rfl, rfl, Nat.zero_le _, hbase, rfl, rfl⟩, ?_⟩
  clear hbase hx2 hx3 hrd4 hrt5 hrt6
  rintro ⟨q1, q2, q3, q4, i, ⟨⟩⟩ g ⟨I, lab, B, s, A, C, e1, e2, e3, e4, hi, hI, hD, hA, hC⟩
  simp only at e1 e2 e3 e4 hi ⊢
  subst e1 e2 e3 e4 hi
  refine bsel_dec (fun hc => ?_) fun hc => ?_
  · have hI2 : I < os.length := by omega
    have hIe : os[I]? = some (os[I]'hI2) := List.getElem?_eq_getElem hI2
    have ho := hok _ (List.getElem_mem hI2)
    generalize os[I]'hI2 = o at *
    obtain ⟨a, rfl, hrw⟩ := rAt_row (hrow.only hD.only) hIe
    refine ⟨⟨by omega, hc⟩, ?_⟩
    simp only [onO, Int.toNat_natCast]
    refine ⟨_, hrw, op_copy fun g2 ho2 hz2 => ?_⟩
    have hD2 := hD.fresh ho2
    simp only [add_mk, Nat.zero_add]
    refine ldI_at hz2 rfl ?_
    rw [w64 (n := (I : Int) + 1) (by omega) (by omega)]
    refine bsel_dec (fun h12 => ?_) fun h12 => ?_
    · have hdk : DiskAt g2 h.size B s := hD2.a.hd ▸ hD2.a.x.disk
      refine extNew_spec hdk fun g3 L ho3 hLd hLx hLt hLS hx3 => ?_
      simp only [onP]
      refine ⟨by simp, bsel_b (fun e => by cases e) fun _ => ?_⟩
      refine ldB_at (hz2.only ho3 id) rfl (bsel_b (fun ht => ?_) fun ht => ?_)
      · refine rtnew_spec fun g4 ho4 hrt4 hs4 => ?_
        simp only [onP]
        have hN := (hD2.swap.newA ho3 hLd hLx hLt hLS hx3 ho4 hrt4).swap.more (m' := 2 * (I + 1)) (by omega)
        exact ⟨⟨I + 1, _, B, s, A, ⟨L, fun _ => none, fun _ => none, g3.size, C.i⟩, rfl, rfl, rfl, rfl, rfl, hI2, hN, hA, rfl⟩, by omega⟩
      · refine rtnew_spec fun g4 ho4 hrt4 hs4 => ?_
        simp only [onP]
        have hN := (hD2.newA ho3 hLd hLx hLt hLS hx3 ho4 hrt4).more (m' := 2 * (I + 1)) (by omega)
        exact ⟨⟨I + 1, _, B, s, ⟨L, fun _ => none, fun _ => none, g3.size, A.i⟩, C, rfl, rfl, rfl, rfl, rfl, hI2, hN, rfl, hC⟩, by omega⟩
    · refine ldB_at hz2 rfl (bsel_b (fun ht => ?_) fun ht => ?_)
      · refine ldR_at hz2 (At.all _) rfl (by simp [opV]) ?_
        refine played_spec hD2.swap hC (by omega) ho fun g3 lab3 B3 s3 f3 hD3 => ?_
        simp only [onB]
        have hN := hD3.swap.more (m' := 2 * (I + 1)) (by omega)
        exact bsel_nb (fun e => by cases e) fun _ => ⟨⟨I + 1, lab3, B3, s3, A, { C with f := f3, g := f3 }, rfl, rfl, rfl, rfl, rfl, hI2, hN, hA, rfl⟩, by omega⟩
      · refine ldR_at hz2 (At.all _) rfl (by simp [opV]) ?_
        refine played_spec hD2 hA (by omega) ho fun g3 lab3 B3 s3 f3 hD3 => ?_
        simp only [onB]
        have hN := hD3.more (m' := 2 * (I + 1)) (by omega)
        exact bsel_nb (fun e => by cases e) fun _ => ⟨⟨I + 1, lab3, B3, s3, { A with f := f3, g := f3 }, C, rfl, rfl, rfl, rfl, rfl, hI2, hN, rfl, hC⟩, by omega⟩
  · have hIl : I = os.length := by omega
    subst hIl
    -- the sectors that were written
    have hex : ∀ L : Am.Loc, ∀ t : Nat, L = A.L → t = A.t → True := fun _ _ _ _ => trivial
    refine ⟨fun st g => ∃ (J : Nat) (lab : Nat → Nat) (B : Option Nat) (s : DSt) (f : Nat → Option ExtS), st.1 = (J : Int) ∧ J ≤ os.length ∧ Duo h g lab h.size B s s h3.size (2 * os.length + 2 * J) { A with f := f, g := f } C, fun st _ => ((os.length : Int) - st.1).toNat,
      ⟨0, lab, B, s, A.f, rfl, Nat.zero_le _, by have := hD; obtain ⟨L, f, gg, t, i⟩ := A; simp only at hA; subst hA; exact this⟩, ?_⟩
    rintro ⟨i, ⟨⟩⟩ g2 ⟨J, lab2, B2, s2, f2, hi, hJ, hD2⟩
    simp only at hi ⊢
    subst hi
    refine bsel_dec (fun hj => ?_) fun hj => ?_
    · have hJ2 : J < os.length := by omega
      have hJe : os[J]? = some (os[J]'hJ2) := List.getElem?_eq_getElem hJ2
      generalize os[J]'hJ2 = o at *
      obtain ⟨a, rfl, hrw⟩ := rAt_row (hrow.only hD2.only) hJe
      refine ⟨⟨by omega, hj⟩, ?_⟩
      simp only [onO, Int.toNat_natCast]
      refine ⟨_, hrw, op_copy fun g3 ho3 hz3 => ?_⟩
      have hD3 := hD2.fresh ho3
      simp only [add_mk, Nat.zero_add]
      refine ldI_at hz3 rfl ?_
      rw [w64 (n := (J : Int) + 1) (by omega) (by omega)]
      refine bsel_dec (fun h6 => ?_) fun h6 => ?_
      · refine ldI_at hz3 rfl (ldI_at hz3 rfl ?_)
        rw [fill67]
        simp only [onO]
        refine played_spec (A := { A with f := f2, g := f2 }) hD3 rfl (by omega) (opOk_plain h _ _) fun g4 lab4 B4 s4 f4 hD4 => ?_
        simp only [onB]
        exact bsel_nb (fun e => by cases e) fun _ => ⟨⟨J + 1, lab4, B4, s4, f4, rfl, hJ2, hD4.more (by omega)⟩, by omega⟩
      · exact ⟨⟨J + 1, _, B2, s2, f2, rfl, hJ2, hD3.more (by omega)⟩, by omega⟩
    · rw [fill67']
      simp only [onO]
      refine played_spec (A := { A with f := f2, g := f2 }) hD2 rfl (by omega) (opOk_plain h _ _) fun g4 lab4 B4 s4 f4 hD4 => ?_
      simp only [onB]
      refine bsel_true rfl ?_
      rw [fill67']
      simp only [onO]
      refine played_spec (A := C) hD4.swap hC (by omega) (opOk_plain h _ _) fun g5 lab5 B5 s5 f5 hD5 => ?_
      simp only [onB]
      refine bsel_true rfl ?_
      refine played_spec (A := { A with f := f4, g := f4 }) hD5.swap rfl (by omega) (opOk_plain h _ _) fun g6 lab6 B6 s6 f6 hD6 => ?_
      simp only [onB]
      exact k g6 hD6.only

end Am
end Go.Proofs.Ytfijmoofdafoiaa
