/-
  ExtentQuiet: its function returns true: the walk.
-/
import Derived.Test.YtfijmoofdafoiaaAq
set_option linter.unusedSimpArgs false
set_option linter.unusedVariables false
set_option maxRecDepth 100000
namespace Go.Proofs.Ytfijmoofdafoiaa
open Go Go.RowKit
namespace Am

variable {T T' : Nat → Prop} {h h' h'' : Hp} {L : Am.Loc} {B B' : Option Nat} {f f' : Nat → Option ExtS} {s s' : DSt} {d : Nat} {K : Value → Hp → Prop}

/-- What stands between two calls. -/
structure Still (h0 h : Hp) (L : Am.Loc) (B : Option Nat) (f : Nat → Option ExtS) (s : DSt) : Prop where
  only : Only (fun _ => False) h0 h
  x : XAt h L B f s
  fx : ∀ b, xOwn L B b → h0.size ≤ b

variable {h0 : Hp}

theorem Still.fresh (hw : Still h0 h L B f s) (ho : Only (fun _ => False) h h') : Still h0 h' L B f s := ⟨hw.only.trans ho fun _ _ x => x, hw.x.fresh ho, hw.fx⟩
theorem Still.tab (hw : Still h0 h L B f s) (ho : Only (tOwn L.t L.S) h h') (hx : XAt h' L B f' s) : Still h0 h' L B f' s :=
  ⟨hw.only.trans ho fun b hb hx' => absurd (hw.fx b (.inr (.inl hx'))) (by omega), hx, hw.fx⟩
theorem Still.disk (hw : Still h0 h L B f s) (ho : Only (dOwn L.d B) h h') (hx : XAt h' L B' f s') (hB : ∀ b, B' = some b → B = some b ∨ h.size ≤ b) : Still h0 h' L B' f s' := by
  refine ⟨hw.only.trans ho fun b hb hx' => absurd (hw.fx b (.inr (.inr hx'))) (by omega), hx, ?_⟩
  rintro b (k | k | k | k)
  · exact hw.fx b (.inl k)
  · exact hw.fx b (.inr (.inl k))
  · exact hw.fx b (.inr (.inr (.inl k)))
  · rcases hB b k with k | k
    · exact hw.fx b (.inr (.inr (.inr k)))
    · have := hw.only.1; omega
theorem Still.flag (hw : Still h0 h L B f s) (ho : Only (Od L.d) h h') (hd : DiskAt h' L.d B s') : Still h0 h' L B f s' :=
  hw.disk (ho.mono fun _ _ e => .inl e) (hw.x.diskStep (ho.mono fun _ _ e => .inl e) hd fun b hb => .inl hb) fun b hb => .inl hb

theorem xwrite_at {n m : Int} {p : Option Addr} {bs : List UInt8} {l c : Nat} (hbl : bs.length = l) (hx : XAt h L B f s) (hl : s.cache.length ≤ 1099511627) (hp : SlAt h p (byV bs)) (hpd : Off p (Od L.d))
    (k : ∀ h' B', Only (dOwn L.d B) h h' → XAt h' L B' f (xwriteF f s n m bs).2 → (∀ b, B' = some b → B = some b ∨ h.size ≤ b) → K (.int .i64 (xwriteF f s n m bs).1) h') :
    Run tc.P 13 #[.pointer (some ⟨L.x, 0, none⟩), .int .i64 n, .int .i64 m, .slice p l c] h K := by subst hbl; exact xwrite_spec hx hl hp hpd k

theorem placeF_at {n m : Int} {x : ExtS} (hg : getR f n = some x) (h0 : 0 ≤ m) (h1 : m < 32) : placeF f n m = (n * 32 + m, 0) := by
  unfold placeF; rw [hg]; simp only; rw [if_neg (by omega), if_neg (by omega)]

theorem placeF_out {n m : Int} {x : ExtS} (hg : getR f n = some x) (h1 : 32 ≤ m) : placeF f n m = (0, 40) := by
  unfold placeF; rw [hg]; simp only; rw [if_neg (by omega), if_pos h1]

theorem act_down (hd : s.down = true) : s.act = (false, s) := by unfold DSt.act; rw [if_pos hd]

theorem write_down {n : Int} {bs : List UInt8} (hd : s.down = true) (hn : 0 ≤ n ∧ n < 1024) (hb : bs.length = 128) : s.write n bs = (42, s) := by
  unfold DSt.write; rw [if_neg (by simpa using hn), if_neg (by omega), act_down hd]; rfl
theorem write_size {n : Int} {bs : List UInt8} (hn : 0 ≤ n ∧ n < 1024) (hb : bs.length ≠ 128) : s.write n bs = (41, s) := by
  unfold DSt.write; rw [if_neg (by simpa using hn), if_pos hb]

theorem drainM_skip (kept : Nat → Bool) : ∀ (c r : List (Nat × List UInt8)) (i : Nat) (m : Nat → List UInt8), (∀ j, j < c.length → kept (i + j) = false) → drainM kept i (c ++ r) m = drainM kept (i + c.length) r m := by
  intro c
  induction c with
  | nil => intro r i m _; rfl
  | cons e c ih =>
    intro r i m hk
    simp only [List.cons_append, drainM]
    rw [show kept i = false from hk 0 (by simp)]
    simp only [Bool.false_eq_true, if_false]
    rw [ih r (i + 1) m (fun j hj => by have := hk (j + 1) (by simpa using hj); rw [← this]; congr 1; omega)]
    congr 1; simp; omega
theorem drainN_skip (kept : Nat → Bool) : ∀ (c r : List (Nat × List UInt8)) (i : Nat), (∀ j, j < c.length → kept (i + j) = false) → drainN kept i (c ++ r) = drainN kept (i + c.length) r := by
  intro c
  induction c with
  | nil => intro r i _; rfl
  | cons e c ih =>
    intro r i hk
    simp only [List.cons_append, drainN]
    rw [show kept i = false from hk 0 (by simp)]
    simp only [Bool.false_eq_true, if_false, Nat.zero_add]
    rw [ih r (i + 1) (fun j hj => by have := hk (j + 1) (by simpa using hj); rw [← this]; congr 1; omega)]
    congr 1; simp; omega

/-- The crash of a disk on which one write behind the others waits, of which alone it may be told that it is kept. -/
theorem crash_last {n : Nat} {bs : List UInt8} {c : List (Nat × List UInt8)} {l : List Bool} (hc : s.cache = c ++ [(n, bs)]) (hm : s.med = DSt.init.med) :
    (s.crash (List.replicate c.length false ++ l)).look n = (if l.getD 0 false then bs else List.replicate 128 0) ∧ drainN (keptOf (List.replicate c.length false ++ l)) 0 s.cache = (if l.getD 0 false then 1 else 0) := by
  have hk : ∀ j, j < c.length → keptOf (List.replicate c.length false ++ l) (0 + j) = false := by
    intro j hj
    unfold keptOf
    rw [List.getD_eq_getElem?_getD, Nat.zero_add, List.getElem?_append_left (by simpa using hj), List.getElem?_replicate, if_pos hj]; rfl
  have hk1 : keptOf (List.replicate c.length false ++ l) (0 + c.length) = l.getD 0 false := by
    unfold keptOf
    rw [List.getD_eq_getElem?_getD, List.getD_eq_getElem?_getD, Nat.zero_add, List.getElem?_append_right (by simp)]; simp
  constructor
  · show lookF ((s.crash (List.replicate c.length false ++ l)).med n) [] n = _
    show drainM (keptOf (List.replicate c.length false ++ l)) 0 s.cache s.med n = _
    rw [hc, hm, drainM_skip _ _ _ _ _ hk]
    simp only [drainM, hk1]
    split
    · simp [upd]
    · rfl
  · rw [hc, drainN_skip _ _ _ _ hk]
    simp only [drainN, hk1, Nat.add_zero]

theorem bsel_true {A C : Prop} {b : Bool} (hb : b = true) (a : A) : bsel b A C := by subst hb; exact a
theorem bsel_false {A C : Prop} {b : Bool} (hb : b = false) (c : C) : bsel b A C := by subst hb; exact c

theorem quiet_spec {p0 p1 p2 : Option Addr} {l0 l1 : List Int} {l2 : List Bool} {c0 c1 c2 : Nat} (h0 : RAt h p0 (intV l0)) (h1 : RAt h p1 (intV l1)) (h2 : RAt h p2 (l2.map .bool))
    (hl0 : l0.length ≤ 1048576) (hl1 : l1.length ≤ 1048576) (hl2 : l2.length ≤ 1048576) (hc1 : l1.length ≤ c1) (k : ∀ h', Only (fun _ => False) h h' → K (.bool true) h') :
    Run tc.P 5 #[.slice p0 l0.length c0, .slice p1 l1.length c1, .slice p2 l2.length c2] h K := by
  apply L5_run; unfold L5
  refine filledDisk_spec h0 (by omega) fun g1 B s ho1 hd1 hB1 hF => ?_
  simp only [onP]
  refine ⟨by simp, bsel_b (fun e => by cases e) fun _ => ?_⟩
  refine extNew_spec hd1 fun g2 L ho2 hLd hLx hLt hLS hx2 => ?_
  simp only [onP]
  refine ⟨by simp, bsel_b (fun e => by cases e) fun _ => ?_⟩
  have hfx : ∀ b, xOwn L B b → h.size ≤ b := by
    have := ho1.1
    rintro b (rfl | (rfl | rfl) | (rfl | hb))
    · omega
    · omega
    · omega
    · rw [hLd]; exact Nat.le_refl _
    · exact hB1 b hb
  have hq2 : Still h g2 L B (fun _ => none) s := ⟨ho1.trans ho2 fun _ _ x => x, hx2, hfx⟩
  refine claim_spec hq2.x fun g3 ho3 hx3 => ?_
  have e3 : claimF (fun _ => none) 3 9 = ((3, 0), upd (fun _ => none) 3 (some ⟨3, 9, 1⟩)) := claimF_at (N := 3) (by decide) (by decide)
  rw [e3] at hx3 ⊢
  have hq3 := hq2.tab ho3 hx3
  dsimp only at hq3
  refine onTup_of rfl (onI_of (onTup_of rfl (onI_of ?_)))
  refine bsel_ndec (fun e => (e (by trivial)).elim) fun _ => bsel_ndec (fun e => (e (by trivial)).elim) fun _ => ?_
  have hg3 : getR (upd (fun _ => none) 3 (some (⟨3, 9, 1⟩ : ExtS))) 3 = some ⟨3, 9, 1⟩ := rfl
  have hf3 : ∀ n, n < 32 → (upd (fun _ => none) 3 (some (⟨3, 9, 1⟩ : ExtS)) n).isSome = decide (n = 3) := by
    intro n _; unfold upd; split
    · rename_i e; subst e; rfl
    · rename_i e; simp [e]
  have hv3 : upd (fun _ => none) 3 (some (⟨3, 9, 1⟩ : ExtS)) 3 = some ⟨3, 9, 1⟩ := rfl
  generalize upd (fun _ => none) 3 (some (⟨3, 9, 1⟩ : ExtS)) = f at *
  refine run_spec (b := 195) (n := 128) (by decide) fun g4 q4 c4 ho4 hb4 hf4 => ?_
  simp only [onSl]
  have hq4 := hq3.fresh ho4
  have hlen : (List.replicate 128 (195 : UInt8)).length = 128 := List.length_replicate
  refine xwrite_at hlen hq4.x (by rw [hF.len]; omega) hb4.slAt (hf4.off fun b hb => by cases hb; exact hq3.x.disk.lt) fun g5 B5 ho5 hx5 hB5 => ?_
  have e5 : xwriteF f s 3 31 (List.replicate 128 195) = (0, { s with acts := IntKind.i64.wrap (s.acts + 1), cache := s.cache ++ [(127, List.replicate 128 195)] }) := by
    unfold xwriteF
    rw [placeF_at hg3 (by decide) (by decide), if_neg (fun e => e rfl)]
    exact write_up hF.armed hF.down (by decide) hlen
  rw [e5] at hx5 ⊢
  have hq5 := hq4.disk ho5 hx5 hB5
  dsimp only at hq5
  refine onI_of (bsel_ndec (fun e => (e (by trivial)).elim) fun _ => ?_)
  have hc5 : ({ s with acts := IntKind.i64.wrap (s.acts + 1), cache := s.cache ++ [(127, List.replicate 128 195)] } : DSt).cache = s.cache ++ [(127, List.replicate 128 195)] := rfl
  have hm5 : ({ s with acts := IntKind.i64.wrap (s.acts + 1), cache := s.cache ++ [(127, List.replicate 128 195)] } : DSt).med = DSt.init.med := hF.med
  have hd5 : ({ s with acts := IntKind.i64.wrap (s.acts + 1), cache := s.cache ++ [(127, List.replicate 128 195)] } : DSt).down = false := hF.down
  clear hx5 e5
  generalize ({ s with acts := IntKind.i64.wrap (s.acts + 1), cache := s.cache ++ [(127, List.replicate 128 195)] } : DSt) = s5 at *
  have hcl : s5.cache.length = l0.length + 1 := by rw [hc5]; simp [hF.len]
  have hsl : s.cache.length = l0.length := hF.len
  clear hF hq4 hq3 hq2 hx2 hd1
  generalize s.cache = cc at *
  rw [← hLd]
  refine pending_spec hq5.x.disk (by omega) fun g6 p6 c6 xs6 ho6 hb6 hf6 => ?_
  simp only [onSl]
  have hq6 := hq5.fresh ho6
  refine arm_spec hq6.x.disk fun g7 ho7 hd7 => ?_
  have e7 : s5.arm 0 = (0, { s5 with armed := true, left := 0 }) := by unfold DSt.arm; rw [if_neg (by decide), hd5]; rfl
  rw [e7] at hd7 ⊢
  have hq7 := hq6.flag ho7 hd7
  dsimp only at hq7
  refine onI_of (bsel_ndec (fun e => (e (by trivial)).elim) fun _ => ?_)
  refine xflush_spec hq7.x (by show s5.cache.length ≤ _; omega) fun g8 B8 ho8 hx8 hB8 => ?_
  have e8 : ({ s5 with armed := true, left := 0 } : DSt).flush = (42, { s5 with armed := true, left := 0, down := true }) := by
    have ha : ({ s5 with armed := true, left := 0 } : DSt).act = (false, { s5 with armed := true, left := 0, down := true }) := by
      unfold DSt.act; simp [hd5]
    unfold DSt.flush; rw [ha]; rfl
  rw [e8] at hx8 ⊢
  have hq8 := hq7.disk (ho8.mono fun _ _ e => .inl e) hx8 (fun b hb => by
    rcases hB8 with rfl | rfl
    · exact .inl hb
    · cases hb)
  dsimp only at hq8
  refine onI_of (bsel_ndec (fun e => (e (by trivial)).elim) fun _ => ?_)
  have hc8 : ({ s5 with armed := true, left := 0, down := true } : DSt).cache = cc ++ [(127, List.replicate 128 195)] := hc5
  have hm8 : ({ s5 with armed := true, left := 0, down := true } : DSt).med = DSt.init.med := hm5
  have hd8 : ({ s5 with armed := true, left := 0, down := true } : DSt).down = true := rfl
  clear hx8 e8 hd7 e7 hq7 hq6 hq5
  generalize ({ s5 with armed := true, left := 0, down := true } : DSt) = s8 at *
  have hcl8 : s8.cache.length = l0.length + 1 := by rw [hc8]; simp [hsl]
  refine down_spec hq8.x.disk ?_
  rw [hd8]
  simp only [onB]
  refine bsel_nb (fun e => by cases e) fun _ => ?_
  clear hB8 hB5 ho8
  generalize B8 = B at *
  refine ⟨fun st g => ∃ (I : Nat) (f : Nat → Option ExtS), st.1 = (I : Int) ∧ I ≤ l1.length ∧ Still h g L B f s8 ∧ (∃ x, f 3 = some x ∧ x.ser = 9) ∧ ∀ n, n < 32 → (f n).isSome = (decide (n = 3) || (l1.take I).any fun x => decide (m32 x = (n : Int))),
    fun st _ => ((l1.length : Int) - st.1).toNat, ⟨0, f, rfl, Nat.zero_le _, hq8, ⟨_, hv3, rfl⟩, fun n hn => by rw [hf3 n hn]; simp⟩, ?_⟩
  clear hq8 hf3 hv3 hg3
  rintro ⟨i, ⟨⟩⟩ g9 ⟨I, f, hi, hI, hq, ⟨x3, hx3, hs3⟩, hfn⟩
  simp only at hi ⊢
  subst hi
  refine bsel_dec (fun hc => ?_) fun hc => ?_
  · have hIl : I < l1.length := by omega
    have hr1 := h1.only hq.only
    obtain ⟨a1, rfl, hcell⟩ := hr1.int hIl
    refine ⟨⟨by omega, hc⟩, ?_⟩
    simp only [onO, Int.toNat_natCast, Nat.mul_one]
    refine ldI_cell hcell ?_
    have hr := umod (n := l1[I]'hIl) (m := 32) (by decide) (by decide)
    have htk : l1.take (I + 1) = l1.take I ++ [l1[I]'hIl] := by rw [List.take_add_one, List.getElem?_eq_getElem hIl]; rfl
    have hany : ∀ n : Nat, (l1.take (I + 1)).any (fun x => decide (m32 x = (n : Int))) = ((l1.take I).any (fun x => decide (m32 x = (n : Int))) || decide (IntKind.i64.wrap (Int.tmod (IntKind.u64.wrap (l1[I]'hIl)) 32) = (n : Int))) := by
      intro n; rw [htk, List.any_append, List.any_cons, List.any_nil, Bool.or_false]; rfl
    obtain ⟨N, hN⟩ : ∃ N : Nat, IntKind.i64.wrap (Int.tmod (IntKind.u64.wrap (l1[I]'hIl)) 32) = (N : Int) := ⟨_, (Int.toNat_of_nonneg hr.1).symm⟩
    rw [hN] at hr hany ⊢
    have hN2 : N < 32 := by omega
    rw [w64 (n := (I : Int) + 1) (by omega) (by omega), w64 (n := (I : Int) + 10) (by omega) (by omega)]
    refine claim_spec hq.x fun g10 ho10 hx10 => ?_
    rw [claimF_at hN2 (by omega)] at hx10 ⊢
    have hfN := hfn N hN2
    have htl : (l1.take I).length = I := by rw [List.length_take]; omega
    cases hf : f N with
    | some y =>
      rw [hf] at hx10 hfN
      simp only [Option.isSome_some] at hx10 hfN ⊢
      have hq10 := hq.tab ho10 hx10
      refine onTup_of rfl (onI_of (onTup_of rfl (onI_of ?_)))
      have hgR : serialF f N = (y.ser, 0) := by unfold serialF; rw [getR_nat hN2, hf]
      have hnext : ∀ n, n < 32 → (f n).isSome = (decide (n = 3) || (l1.take (I + 1)).any fun x => decide (m32 x = (n : Int))) := by
        intro n hn
        rw [hany n, hfn n hn]
        by_cases hnN : n = N
        · subst hnN; rw [← Bool.or_assoc, ← hfN]; rfl
        · have : decide ((N : Int) = (n : Int)) = false := decide_eq_false fun e => hnN (by exact_mod_cast e.symm)
          rw [this, Bool.or_false]
      refine bsel_dec (fun h3 => ?_) fun h3 => ?_
      · refine bsel_false (by decide) (bsel_false ?_ ?_)
        · rw [decide_eq_false (show ¬ (-1 : Int) = (N : Int) by omega)]; decide
        refine serial_spec hq10.x fun g11 ho11 => ?_
        rw [hgR]
        refine onTup_of rfl (onI_of (onTup_of rfl (onI_of ?_)))
        refine bsel_ndec (fun e => (e (by trivial)).elim) fun _ => bsel_false (by decide) (bsel_dec (fun _ => ?_) fun e => absurd h3 e)
        have hN3 : N = 3 := by omega
        subst hN3
        rw [hx3] at hf; cases hf
        refine bsel_ndec (fun e => absurd hs3 e) fun _ => ⟨⟨I + 1, f, by omega, hIl, hq10.fresh ho11, ⟨_, hx3, hs3⟩, hnext⟩, by omega⟩
      · refine ⟨⟨by omega, by omega⟩, ?_⟩
        have hrt := (slAddr_at (c := c1) (h1.only hq10.only)).take I
        have hrt2 : RAt g10 (slAddr (some a1) 0 c1 1) (intV (l1.take I)) := by unfold intV at hrt ⊢; rw [List.map_take]; exact hrt
        refine taken_at htl hrt2 (by omega) ?_
        have hT : ((l1.take I).any fun x => decide (m32 x = (N : Int))) = true := by
          have := hfN.symm
          rw [decide_eq_false (show ¬ N = 3 by omega), Bool.false_or] at this
          exact this
        rw [hT]
        simp only [onB]
        refine bsel_false (by decide) (bsel_false ?_ ?_)
        · rw [decide_eq_false (show ¬ (-1 : Int) = (N : Int) by omega)]; decide
        refine serial_spec hq10.x fun g11 ho11 => ?_
        rw [hgR]
        refine onTup_of rfl (onI_of (onTup_of rfl (onI_of ?_)))
        refine bsel_ndec (fun e => (e (by trivial)).elim) fun _ => bsel_false (by decide) (bsel_dec (fun e => absurd e h3) fun _ => ?_)
        exact ⟨⟨I + 1, f, by omega, hIl, hq10.fresh ho11, ⟨_, hx3, hs3⟩, hnext⟩, by omega⟩
    | none =>
      rw [hf] at hx10 hfN
      simp only [Option.isSome_none] at hx10 hfN ⊢
      have hq10 := hq.tab ho10 hx10
      refine onTup_of rfl (onI_of (onTup_of rfl (onI_of ?_)))
      have hN3 : N ≠ 3 := by rintro rfl; rw [hx3] at hf; cases hf
      have hT : ((l1.take I).any fun x => decide (m32 x = (N : Int))) = false := by
        have := hfN.symm
        rw [decide_eq_false hN3, Bool.false_or] at this
        exact this
      have hgR : serialF (upd f N (some (⟨N, (I : Int) + 10, 1⟩ : ExtS))) N = ((I : Int) + 10, 0) := by unfold serialF; rw [getR_nat hN2]; simp [upd]
      refine bsel_dec (fun h3 => by omega) fun h3 => ?_
      refine ⟨⟨by omega, by omega⟩, ?_⟩
      have hrt := (slAddr_at (c := c1) (h1.only hq10.only)).take I
      have hrt2 : RAt g10 (slAddr (some a1) 0 c1 1) (intV (l1.take I)) := by unfold intV at hrt ⊢; rw [List.map_take]; exact hrt
      refine taken_at htl hrt2 (by omega) ?_
      rw [hT]
      simp only [onB]
      refine bsel_false (by decide) (bsel_false ?_ ?_)
      · simp
      refine serial_spec hq10.x fun g11 ho11 => ?_
      rw [hgR]
      refine onTup_of rfl (onI_of (onTup_of rfl (onI_of ?_)))
      refine bsel_ndec (fun e => (e (by trivial)).elim) fun _ => bsel_true (by decide) (bsel_ndec (fun e => (e rfl).elim) fun _ => bsel_dec (fun e => absurd e h3) fun _ => ?_)
      refine ⟨⟨I + 1, _, by omega, hIl, hq10.fresh ho11, ⟨x3, ?_, hs3⟩, fun n hn => ?_⟩, by omega⟩
      · show (if 3 = N then _ else f 3) = _
        rw [if_neg (fun e => hN3 e.symm)]; exact hx3
      · rw [hany n]
        show (if n = N then _ else f n).isSome = _
        split
        · rename_i e; subst e; simp
        · rename_i e
          rw [hfn n hn]
          have : decide ((N : Int) = (n : Int)) = false := decide_eq_false fun e' => e (by exact_mod_cast e'.symm)
          rw [this, Bool.or_false]
  · have hg3 : getR f 3 = some x3 := hx3
    have hp31 := placeF_at (n := 3) (m := 31) hg3 (by decide) (by decide)
    have hp0 := placeF_at (n := 3) (m := 0) hg3 (by decide) (by decide)
    have hp32 := placeF_out (n := 3) (m := 32) hg3 (by decide)
    have eR : xreadE f s8 3 31 = 42 := by unfold xreadE; rw [hp31, if_neg (fun e => e rfl), hd8]; rfl
    refine xread_spec (n := 3) (m := 31) hq.x (by omega) (fun _ g10 ho10 => ?_) fun e => by rw [eR] at e; cases e
    rw [eR]
    have hq10 := hq.fresh ho10
    refine onTup_of rfl ?_
    try simp only [onSl]
    refine onTup_of rfl (onI_of ?_)
    refine bsel_ndec (fun e => (e (by trivial)).elim) fun _ => bsel_ndec (fun e => (e (by trivial)).elim) fun _ => ?_
    refine run_spec (b := 1) (n := 128) (by decide) fun g11 q11 c11 ho11 hb11 hf11 => ?_
    simp only [onSl]
    have hq11 := hq10.fresh ho11
    have hlen1 : (List.replicate 128 (1 : UInt8)).length = 128 := List.length_replicate
    refine xwrite_at hlen1 hq11.x (by omega) hb11.slAt (hf11.off fun b hb => by cases hb; exact hq10.x.disk.lt) fun g12 B12 ho12 hx12 hB12 => ?_
    have e12 : xwriteF f s8 3 0 (List.replicate 128 1) = (42, s8) := by
      unfold xwriteF
      rw [hp0, if_neg (fun e => e rfl)]
      exact write_down hd8 (by decide) hlen1
    rw [e12] at hx12 ⊢
    have hq12 := hq11.disk ho12 hx12 hB12
    dsimp only at hq12
    refine onI_of (bsel_ndec (fun e => (e (by trivial)).elim) fun _ => ?_)
    refine xwrite_at (bs := []) rfl hq12.x (by omega) (show SlAt g12 none (byV []) from rfl) (fun a ha => by cases ha) fun g13 B13 ho13 hx13 hB13 => ?_
    have e13 : xwriteF f s8 3 0 [] = (41, s8) := by
      unfold xwriteF
      rw [hp0, if_neg (fun e => e rfl)]
      exact write_size (by decide) (by decide)
    rw [e13] at hx13 ⊢
    have hq13 := hq12.disk ho13 hx13 hB13
    dsimp only at hq13
    refine onI_of (bsel_ndec (fun e => (e (by trivial)).elim) fun _ => ?_)
    refine xwrite_at (bs := []) rfl hq13.x (by omega) (show SlAt g13 none (byV []) from rfl) (fun a ha => by cases ha) fun g14 B14 ho14 hx14 hB14 => ?_
    have e14 : xwriteF f s8 3 32 [] = (40, s8) := by
      unfold xwriteF
      rw [hp32, if_pos (by decide)]
    rw [e14] at hx14 ⊢
    have hq14 := hq13.disk ho14 hx14 hB14
    dsimp only at hq14
    refine onI_of (bsel_ndec (fun e => (e (by trivial)).elim) fun _ => ?_)
    refine hold_spec (n := 3) hq14.x fun g15 ho15 hx15 => ?_
    have hq15 := hq14.tab ho15 hx15
    have e15 : (holdF f 3).1 = 0 := by unfold holdF; rw [hg3]
    rw [e15]
    generalize (holdF f 3).2 = f15 at *
    refine onI_of (bsel_ndec (fun e => (e (by trivial)).elim) fun _ => ?_)
    refine pending_spec hq15.x.disk (by omega) fun g16 p16 c16 xs16 ho16 hb16 hf16 => ?_
    simp only [onSl]
    have hq16 := hq15.fresh ho16
    refine bsel_ndec (fun e => absurd (by rw [hcl8, hcl]) e) fun _ => ?_
    refine down_spec hq16.x.disk ?_
    rw [hd8]
    simp only [onB]
    refine bsel_nb (fun e => by cases e) fun _ => ?_
    simp only [mkSl]
    refine onI_of (onI_of ?_)
    refine ⟨⟨by omega, by omega, by simp only [IntKind.max, IntKind.signed, IntKind.bits]; omega, by omega⟩, ?_⟩
    have hz4 : (if (l0.length : Int).toNat * 1 = 0 then (#[] : Array Value) else zerosN (zeroOf tc.P 4) ((l0.length : Int).toNat * 1)) = ((List.replicate l0.length false).map Value.bool).toArray := by
      rw [Int.toNat_natCast, Nat.mul_one, zerosN_bool, List.map_replicate]
      split
      · rename_i e; rw [e]; rfl
      · rfl
    rw [hz4]
    have hn17 := Blk.new g16 ((List.replicate l0.length false).map Value.bool).toArray 4
    have ho17 : Only (fun _ => False) g16 (g16.push (.cells ((List.replicate l0.length false).map Value.bool).toArray 4)) := (Only.refl _ _).push _
    have hq17 := hq16.fresh ho17
    have hlf : (List.replicate l0.length false).length = l0.length := List.length_replicate
    have hfl := fun (K : Value → Hp → Prop) kk => flags_spec (h := g16.push (.cells ((List.replicate l0.length false).map Value.bool).toArray 4)) (p := some ⟨g16.size, 0, none⟩) (l := List.replicate l0.length false) (c := l0.length) (K := K)
      (SlAt.rowAt ⟨_, _, _, rfl, hn17, At.all _, by simp⟩) (by omega) kk
    rw [hlf] at hfl
    rw [Int.toNat_natCast]
    refine hfl _ fun g18 q18 c18 ho18 hb18 hf18 => ?_
    simp only [onSl]
    have hq18 := hq17.fresh ho18
    generalize g16.push (.cells ((List.replicate l0.length false).map Value.bool).toArray 4) = g17 at *
    refine apnd_row (by rw [z4]; rfl) hb18 (h2.only hq18.only).rowAt (by simp) (by decide) (fun v hv => by obtain ⟨b, -, rfl⟩ := List.mem_map.1 hv; rfl) (by omega) (by decide) fun q19 c19 g19 ho19 hb19 hp19 => ?_
    have ho19' : Only (fun _ => False) g17 g19 := ho18.trans ho19 fun b hb e => by have := hf18 _ e; simp only at this; omega
    have hq19 := hq17.fresh ho19'
    rw [← List.map_append] at hb19
    have hll : (List.replicate l0.length false ++ l2).length = l0.length + l2.length := by simp
    have hfl2 := fun (K : Value → Hp → Prop) kk => flags_spec (h := g19) (p := q19) (l := List.replicate l0.length false ++ l2) (c := c19) (K := K) hb19.slAt.rowAt (by omega) kk
    rw [hll] at hfl2
    refine hfl2 _ fun g20 q20 c20 ho20 hb20 hf20 => ?_
    simp only [onSl]
    have hq20 := hq19.fresh ho20
    have hcr := fun (K : Value → Hp → Prop) kk => crash_spec (h := g20) (p := q20) (l := List.replicate l0.length false ++ l2) (c := c20) (K := K) hq20.x.disk (by omega) hb20.slAt (hf20.off fun b hb => by cases hb; exact hq19.x.disk.lt) kk
    rw [hll] at hcr
    refine hcr _ fun g21 ho21 hd21 => ?_
    have hcl9 : cc.length = l0.length := hsl
    have hC := crash_last (l := l2) hc8 hm8
    rw [hcl9] at hC
    have hdn : (s8.crash (List.replicate l0.length false ++ l2)).down = false := rfl
    have hcc : (s8.crash (List.replicate l0.length false ++ l2)).cache = [] := rfl
    rw [hC.2]
    have ho21' : Only (fun _ => False) h g21 := hq20.only.trans ho21 fun b hb e => by cases e; have := hq20.fx _ (.inr (.inr (.inl rfl))); omega
    have hlook := hC.1
    clear hC hd8 hc8 hm8
    generalize s8.crash (List.replicate l0.length false ++ l2) = sC at *
    refine onI_of ?_
    refine extNew_spec hd21 fun g22 U ho22 hUd hUx hUt hUS hx22 => ?_
    simp only [onP]
    refine ⟨by simp, bsel_b (fun e => by cases e) fun _ => ?_⟩
    have hlist := fun (K : Value → Hp → Prop) kk => list_spec (K := K) hx22 kk
    have hheld : heldFrom (fun _ => none) 0 = [] := by decide
    rw [hheld] at hlist
    refine hlist _ fun g23 p23 c23 ho23 hb23 hf23 => ?_
    simp only [onSl]
    refine bsel_ndec (fun e => (e (by trivial)).elim) fun _ => ?_
    have hx23 := hx22.fresh ho23
    refine claim_spec hx23 fun g24 ho24 hx24 => ?_
    have e24 : claimF (fun _ => none) 3 11 = ((3, 0), upd (fun _ => none) 3 (some ⟨3, 11, 1⟩)) := claimF_at (N := 3) (by decide) (by decide)
    rw [e24] at hx24 ⊢
    refine onTup_of rfl (onI_of (onTup_of rfl (onI_of ?_)))
    refine bsel_ndec (fun e => (e (by trivial)).elim) fun _ => bsel_ndec (fun e => (e (by trivial)).elim) fun _ => ?_
    have hg24 : getR (upd (fun _ => none) 3 (some (⟨3, 11, 1⟩ : ExtS))) 3 = some ⟨3, 11, 1⟩ := rfl
    generalize upd (fun _ => none) 3 (some (⟨3, 11, 1⟩ : ExtS)) = fu at *
    have hpu := placeF_at (n := 3) (m := 31) hg24 (by decide) (by decide)
    have eU : xreadE fu sC 3 31 = 0 := by unfold xreadE; rw [hpu, if_neg (fun e => e rfl), hdn]; rfl
    have hlt21 : h.size ≤ g21.size := ho21'.1
    have ho24' : Only (fun _ => False) h g24 := ((ho21'.trans ho22 fun _ _ x => x).trans ho23 fun _ _ x => x).trans ho24 fun b hb e => by
      rcases e with rfl | rfl <;> omega
    refine xread_spec (n := 3) (m := 31) hx24 (by rw [hcc]; decide) (fun e => absurd eU e) fun _ g25 v ho25 hv hbv => ?_
    have h127 : ((3 : Int) * 32 + 31).toNat = 127 := by decide
    rw [h127, hlook] at hbv
    have ho25' : Only (fun _ => False) h g25 := ho24'.trans ho25 fun _ _ x => x
    refine onTup_of rfl ?_
    try simp only [onSl]
    refine onTup_of rfl (onI_of ?_)
    have hlenZ : (List.replicate 128 (0 : UInt8)).length = 128 := List.length_replicate
    have fin : ∀ (b : Bool), (l2.getD 0 false = b) → ∀ X : Prop, bsel (decide ((0 : Int) = 0)) (bsel (b == (decide (((if l2.getD 0 false = true then 1 else 0 : Nat) : Int) = 1))) (Run tc.P 14 #[(.int .u8 195), (.int .i64 128)] g25 fun x135 h136 =>
 onSl x135 fun p137 l138 c139 =>
 Run tc.P 16 #[(.slice (some ⟨v, 0, none⟩) 128 128), (.slice p137 l138 c139)] h136 fun x140 h141 =>
 onB x140 fun b142 =>
 bsel (b142 == b) (bsel b (K (.bool true) h141)
 (Run tc.P 14 #[(.int .u8 0), (.int .i64 128)] h141 fun x143 h144 =>
 onSl x143 fun p145 l146 c147 =>
 Run tc.P 16 #[(.slice (some ⟨v, 0, none⟩) 128 128), (.slice p145 l146 c147)] h144 fun x148 h149 =>
 onB x148 fun b150 =>
 K (.bool b150) h149))
 (K (.bool false) h141))
 (K (.bool false) g25)) X := by
      intro b hb X
      refine bsel_true (by decide) ?_
      rw [hb] at hbv ⊢
      refine bsel_true (by cases b <;> rfl) ?_
      refine run_spec (b := 195) (n := 128) (by decide) fun g26 q26 c26 ho26 hb26 hf26 => ?_
      simp only [onSl]
      have hbv2 := hbv.only ho26 id
      cases b with
      | true =>
        simp only [if_true] at hbv2
        refine same_at hlen hlen ⟨_, 0, _, rfl, hbv2, At.all _, by simp⟩ hb26.slAt ?_
        rw [decide_eq_true rfl]
        simp only [onB]
        exact bsel_true rfl (bsel_true rfl (k g26 (ho25'.trans ho26 fun _ _ x => x)))
      | false =>
        simp only [Bool.false_eq_true, if_false] at hbv2
        refine same_at hlenZ hlen ⟨_, 0, _, rfl, hbv2, At.all _, by simp⟩ hb26.slAt ?_
        have hne : ¬ List.replicate 128 (0 : UInt8) = List.replicate 128 195 := by decide
        rw [decide_eq_false hne]
        simp only [onB]
        refine bsel_true rfl (bsel_false rfl ?_)
        refine run_spec (b := 0) (n := 128) (by decide) fun g27 q27 c27 ho27 hb27 hf27 => ?_
        simp only [onSl]
        refine same_at hlenZ hlenZ ⟨_, 0, _, rfl, hbv2.only ho27 id, At.all _, by simp⟩ hb27.slAt ?_
        rw [decide_eq_true rfl]
        simp only [onB]
        exact k g27 ((ho25'.trans ho26 fun _ _ x => x).trans ho27 fun _ _ x => x)
    refine bsel_dec (fun hl => ?_) fun hl => ?_
    · have hl' : 0 < l2.length := by omega
      obtain ⟨a2, rfl, hc2⟩ := h2 0 (.bool (l2[0]'hl')) (by simp [hl'])
      refine ⟨⟨by decide, hl⟩, ?_⟩
      simp only [onO]
      have hgd : l2.getD 0 false = l2[0]'hl' := by rw [List.getD_eq_getElem?_getD, List.getElem?_eq_getElem hl']; rfl
      refine ⟨l2[0]'hl', by have := ho25'.keep.cell hc2; simpa using this, fin _ hgd _⟩
    · have hl' : l2 = [] := List.length_eq_zero_iff.1 (by omega)
      have hgd : l2.getD 0 false = false := by rw [hl']; rfl
      rw [hgd] at hbv ⊢
      refine bsel_true (by decide) (bsel_true (by decide) ?_)
      refine run_spec (b := 195) (n := 128) (by decide) fun g26 q26 c26 ho26 hb26 hf26 => ?_
      simp only [onSl]
      have hbv2 := hbv.only ho26 id
      simp only [Bool.false_eq_true, if_false] at hbv2
      refine same_at hlenZ hlen ⟨_, 0, _, rfl, hbv2, At.all _, by simp⟩ hb26.slAt ?_
      have hne : ¬ List.replicate 128 (0 : UInt8) = List.replicate 128 195 := by decide
      rw [decide_eq_false hne]
      simp only [onB]
      refine bsel_true rfl ?_
      refine run_spec (b := 0) (n := 128) (by decide) fun g27 q27 c27 ho27 hb27 hf27 => ?_
      simp only [onSl]
      refine same_at hlenZ hlenZ ⟨_, 0, _, rfl, hbv2.only ho27 id, At.all _, by simp⟩ hb27.slAt ?_
      rw [decide_eq_true rfl]
      simp only [onB]
      exact k g27 ((ho25'.trans ho26 fun _ _ x => x).trans ho27 fun _ _ x => x)

end Am
end Go.Proofs.Ytfijmoofdafoiaa
