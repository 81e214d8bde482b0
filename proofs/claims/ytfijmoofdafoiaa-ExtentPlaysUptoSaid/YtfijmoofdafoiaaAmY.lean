/-
  ExtentWalls: its function returns true: the walk.
-/
import Derived.Test.YtfijmoofdafoiaaAmX
set_option linter.unusedSimpArgs false
set_option linter.unusedVariables false
set_option maxRecDepth 100000
namespace Go.Proofs.Ytfijmoofdafoiaa
open Go Go.RowKit
namespace Am

variable {T T' : Nat → Prop} {h h' h'' : Hp} {L : Am.Loc} {B B' : Option Nat} {f f' : Nat → Option ExtS} {s s' : DSt} {d : Nat} {K : Value → Hp → Prop}

theorem z28_mine : zeroOf tc.P 28 = ((mineL fun _ => none).map Value.bool).toArray := by rw [z28]; rfl

theorem ldB_mine {M N : Nat} {Q : Bool → Prop} (hb : Blk h M ((mineL f).map Value.bool).toArray) (hN : N < 32) (q : Q (f N).isSome) : ldB h ⟨M, N, none⟩ Q := by
  refine ldB_at hb ?_ q
  have := mineL_get (f := f) hN
  simp [this]

theorem getR_nat {N : Nat} (hN : N < 32) : getR f (N : Int) = f N := by
  unfold getR; rw [if_pos (by omega), Int.toNat_natCast]

theorem walls_spec {p0 p1 p2 : Option Addr} {l0 l1 : List Int} {l2 : List (Int × Int × Int)} {c0 c1 c2 : Nat} (h0 : RAt h p0 (intV l0)) (h1 : RAt h p1 (intV l1)) (h2 : RAt h p2 (triV l2))
    (hl0 : l0.length ≤ 1048576) (hl1 : l1.length ≤ 1048576) (hl2 : l2.length ≤ 1048576) (k : ∀ h', Only (fun _ => False) h h' → K (.bool true) h') :
    Run tc.P 3 #[.slice p0 l0.length c0, .slice p1 l1.length c1, .slice p2 l2.length c2] h K := by
  apply L3_run; unfold L3
  refine filledDisk_spec h0 (by omega) fun g1 B s ho1 hd1 hB1 hF => ?_
  simp only [onP]
  refine ⟨by simp, bsel_b (fun e => by cases e) fun _ => ?_⟩
  refine extNew_spec hd1 fun g2 L ho2 hLd hLx hLt hLS hx2 => ?_
  simp only [onP]
  refine ⟨by simp, bsel_b (fun e => by cases e) fun _ => ?_⟩
  have ho12 := ho1.trans ho2 fun _ _ x => x
  have hfx : ∀ b, xOwn L B b → h.size ≤ b := by
    have := ho1.1
    rintro b (rfl | (rfl | rfl) | (rfl | hb))
    · omega
    · omega
    · omega
    · rw [hLd]; exact Nat.le_refl _
    · exact hB1 b hb
  have hbase : Walls h (g2.push (.cells (zeroOf tc.P 28) 28)) L B (fun _ => none) s g2.size := by
    refine ⟨ho12.push _, hx2.fresh ((Only.refl _ _).push _), by rw [z28_mine]; exact Blk.new _ _ _, fun e => ?_, ho12.1, hfx, hF.armed, hF.down⟩
    have := hx2.lt e; omega
  generalize g2.size = M at *
  refine ⟨fun st h' => ∃ (i : Nat) (f : Nat → Option ExtS), st.1 = (i : Int) ∧ i ≤ l1.length ∧ Walls h h' L B f s M, fun st _ => ((l1.length : Int) - st.1).toNat, ⟨0, fun _ => none, rfl, Nat.zero_le _, hbase⟩, ?_⟩
  rintro ⟨i, ⟨⟩⟩ g3 ⟨I, f, hi, hI, hw⟩
  simp only at hi ⊢
  subst hi
  refine bsel_dec (fun hc => ?_) fun hc => ?_
  · have hIl : I < l1.length := by omega
    obtain ⟨a1, rfl, hcell⟩ := (h1.only hw.only).int hIl
    refine ⟨⟨by omega, hc⟩, ?_⟩
    simp only [onO, add_mk, Int.toNat_natCast, Nat.mul_one]
    refine ldI_cell hcell ?_
    have hr := umod (n := l1[I]'hIl) (m := 32) (by decide) (by decide)
    obtain ⟨N, hN⟩ : ∃ N : Nat, IntKind.i64.wrap (Int.tmod (IntKind.u64.wrap (l1[I]'hIl)) 32) = (N : Int) := ⟨_, (Int.toNat_of_nonneg hr.1).symm⟩
    rw [hN] at hr ⊢
    have hN2 : N < 32 := by omega
    rw [w64 (n := (I : Int) + 1) (by omega) (by omega)]
    refine claim_spec hw.x fun g4 ho4 hx4 => ?_
    rw [claimF_at hN2 (by omega)] at hx4 ⊢
    refine onTup_of rfl (onI_of (onTup_of rfl (onI_of ⟨⟨by omega, by omega⟩, ?_⟩)))
    have hm4 := hw.mine.only ho4 fun e => hw.nM (.inr (.inl e))
    simp only [Int.toNat_natCast, Nat.zero_add]
    refine ldB_mine hm4 hN2 ?_
    have hml : N + (#[Value.bool true] : Array Value).size ≤ ((mineL f).map Value.bool).toArray.size := by simp [mineL_length]; omega
    cases hf : f N with
    | some y =>
      rw [hf] at hx4
      have hwn := hw.claim ho4 hx4 hN2 (mineL_same hN2 hf)
      refine bsel_b (fun _ => ?_) fun e => by cases e
      refine bsel_ndec (fun e => (e rfl).elim) fun _ => bsel_ndec (fun e => (e rfl).elim) fun _ => ⟨⟨by omega, by omega⟩, ldB_mine hm4 hN2 ?_⟩
      rw [hf]
      refine bsel_nb (fun e => by cases e) fun _ => ⟨⟨by omega, by omega⟩, st_at hm4 hml (one_ok _ rfl) ⟨⟨I + 1, f, rfl, by omega, hwn⟩, by omega⟩⟩
    | none =>
      rw [hf] at hx4
      have hwn := hw.claim ho4 hx4 hN2 (mineL_upd hN2)
      refine bsel_b (fun e => by cases e) fun _ => ⟨⟨by omega, by omega⟩, ldB_mine hm4 hN2 ?_⟩
      rw [hf]
      refine bsel_nb (fun _ => ?_) fun e => by cases e
      refine bsel_ndec (fun e => (e rfl).elim) fun _ => bsel_ndec (fun e => (e rfl).elim) fun _ => ⟨⟨by omega, by omega⟩, st_at hm4 hml (one_ok _ rfl) ⟨⟨I + 1, _, rfl, by omega, hwn⟩, by omega⟩⟩
  have hd3 : DiskAt g3 h.size B s := hLd ▸ hw.x.disk
  refine whole_spec hd3 (by rw [hF.len]; omega) hF.down fun g4 p cap gs ho4 hgl hW hfp hfg => ?_
  simp only [onSl]
  refine bsel_ndec (fun e => (e rfl).elim) fun _ => ?_
  have hw4 := hw.fresh ho4
  have hn4 : Now h g4 L B M s.look p cap gs := by
    have hs := hw.only.1
    refine ⟨hW, hgl, fun a ha e => ?_, fun a ha e => ?_, fun g hg e => ?_, fun g hg e => ?_, hfp.mono hs, fun g hg => Nat.le_trans hs (hfg g hg)⟩
    · have := hfp a ha; have := hw.x.lt e; omega
    · have := hfp a ha; have := hw.mine.lt; simp only at e; omega
    · have := hfg g hg; have := hw.x.lt e; omega
    · have := hfg g hg; have := hw.mine.lt; omega
  refine ldR_at hw4.mine (At.all _) (by simp [mineL_length]) (by simp [mineL_length]) ?_
  refine list_spec hw4.x fun g5 q qc ho5 hq hfq => ?_
  simp only [onSl]
  refine ⟨ho5.keep, ?_⟩
  refine count_spec (mineL_length f) fun g6 ho6 => ?_
  refine onI_of ?_
  refine bsel_ndec (fun e => absurd (by rw [held_count]) e) fun _ => ?_
  have hw6 := (hw4.fresh ho5).fresh ho6
  have hn6 := (hn4.fresh ho5).fresh ho6
  have hs0 : s.cache.length = l0.length := hF.len
  clear hF hbase hx2 hd1 hd3 hW hB1 hfx hw hw4 hn4 hq hfq
  refine ⟨fun st h' => ∃ (i : Nat) (B : Option Nat) (s : DSt) (gs : List Nat), st.1 = (i : Int) ∧ i ≤ l2.length ∧ s.cache.length ≤ l0.length + i ∧ Walls h h' L B f s M ∧ Now h h' L B M s.look p cap gs, fun st _ => ((l2.length : Int) - st.1).toNat,
    ⟨0, B, s, gs, rfl, Nat.zero_le _, by omega, hw6, hn6⟩, ?_⟩
  clear hw6 hn6 hs0 hgl hfp hfg
  rintro ⟨i, ⟨⟩⟩ g7 ⟨I, B, s, gs, hi, hI, hsl, hw, hn⟩
  simp only at hi ⊢
  subst hi
  have hcl : s.cache.length ≤ 1099511627 := by omega
  refine bsel_dec (fun hc => ?_) fun hc => ?_
  · have hIl : I < l2.length := by omega
    obtain ⟨a2, rfl, hcell⟩ := (h2.only hw.only).tri hIl
    generalize l2[I]'hIl = x at *
    obtain ⟨n, m, u⟩ := x
    simp only at hcell
    refine ⟨⟨by omega, hc⟩, ?_⟩
    simp only [onO, add_mk, Int.toNat_natCast, Nat.mul_one]
    refine ⟨⟨by omega, by omega⟩, ⟨by omega, hc⟩, ⟨by omega, by omega⟩, ⟨by omega, hc⟩, ⟨by omega, by omega⟩, ?_⟩
    rw [Addr.add_add, Addr.add_add, Addr.add_add]
    refine ldI_cell hcell.1 (ldI_cell hcell.2.1 (ldI_cell hcell.2.2 ?_))
    obtain ⟨u8, hu⟩ := u8_of (n := u)
    rw [hu]
    have hlen : (List.replicate 128 u8).length = 128 := List.length_replicate
    refine run_spec (n := 128) (by decide) fun g8 q qc ho8 hbuf hfq => ?_
    simp only [onSl]
    have hw8 := hw.fresh ho8
    have hn8 := hn.fresh ho8
    have hqd : Off q (Od L.d) := fun a ha e => by have := hfq a ha; have := hw.x.disk.lt; simp only [Od] at e; omega
    have hrun := fun (K : Value → Hp → Prop) kk => xwrite_spec (n := n) (m := m) (c := qc) (bs := List.replicate 128 u8) (K := K) hw8.x hcl hbuf.slAt hqd kk
    rw [hlen] at hrun
    refine hrun _ fun g9 B9 ho9 hx9 hB9 => ?_
    refine onI_of ?_
    have hw64 : IntKind.i64.wrap ((I : Int) + 1) = ((I + 1 : Nat) : Int) := by rw [w64 (by omega) (by omega)]; rfl
    rw [hw64]
    have ways : ((∃ X, (X = 100 ∨ X = 40) ∧ (placeF f n m).2 = X) ∨ (placeF f n m).2 = 0) := by
      unfold placeF
      split
      · exact .inl ⟨100, .inl rfl, rfl⟩
      · split
        · exact .inl ⟨40, .inr rfl, rfl⟩
        · split
          · exact .inl ⟨40, .inr rfl, rfl⟩
          · exact .inr rfl
    rcases ways with ⟨X, hX, hpl⟩ | hpl
    · have hX0 : X ≠ 0 := by rcases hX with rfl | rfl <;> decide
      have eW : xwriteF f s n m (List.replicate 128 u8) = (X, s) := by unfold xwriteF; rw [if_pos (by rw [hpl]; exact hX0), hpl]
      have eR : xreadE f s n m = X := by unfold xreadE; rw [if_pos (by rw [hpl]; exact hX0), hpl]
      rw [eW] at hx9 ⊢
      have hw9 : Walls h g9 L B9 f s M := hw8.disk ho9 hx9 hB9 hw.armed hw.down
      have hn9 := hn8.disk ho9 hB9
      refine xread_spec (n := n) (m := m) hx9 (by show s.cache.length ≤ _; omega) (fun _ g10 ho10 => ?_) (fun e => absurd (eR.symm.trans e) hX0)
      have eR' : xreadE f (X, s).2 n m = X := eR
      rw [eR']
      refine onTup_of rfl ?_
      simp only [onSl]
      refine onTup_of rfl (onI_of ?_)
      have hw10 := hw9.fresh ho10
      have hn10 := hn9.fresh ho10
      have fin : ∀ h', Only (fun _ => False) g10 h' → (∃ (i : Nat) (B : Option Nat) (s : DSt) (gs : List Nat), ((I + 1 : Nat) : Int) = (i : Int) ∧ i ≤ l2.length ∧ s.cache.length ≤ l0.length + i ∧ Walls h h' L B f s M ∧ Now h h' L B M s.look p cap gs) ∧ ((l2.length : Int) - ((I + 1 : Nat) : Int)).toNat < ((l2.length : Int) - (I : Int)).toNat :=
        fun h' ho' => ⟨⟨I + 1, B9, s, gs, rfl, by omega, by omega, hw10.fresh ho', hn10.fresh ho'⟩, by omega⟩
      have h100 : getR f n = none → X = 100 := by
        intro hg; rw [← hpl]; unfold placeF; rw [hg]
      refine bsel_dec (fun c1 => ?_) fun c1 => bsel_dec (fun c2 => ?_) fun c2 => ?_
      · obtain rfl := h100 (by unfold getR; rw [if_neg (by omega)])
        exact tail_fail hw10 hn10 (by omega) hLd (by decide) rfl rfl rfl fin
      · obtain rfl := h100 (by unfold getR; rw [if_neg (by omega)])
        exact tail_fail hw10 hn10 (by omega) hLd (by decide) rfl rfl rfl fin
      obtain ⟨N, rfl⟩ : ∃ N : Nat, n = (N : Int) := ⟨n.toNat, by omega⟩
      have hN : N < 32 := by omega
      refine ⟨⟨by omega, by omega⟩, ?_⟩
      simp only [Int.toNat_natCast, Nat.zero_add]
      refine ldB_mine hw10.mine hN (bsel_nb (fun c3 => ?_) fun c3 => bsel_dec (fun c4 => ?_) fun c4 => bsel_dec (fun c5 => ?_) fun c5 => ?_)
      · obtain rfl := h100 (by rw [getR_nat hN]; simpa using c3)
        exact tail_fail hw10 hn10 (by omega) hLd (by decide) rfl rfl rfl fin
      · obtain ⟨y, hy⟩ := Option.isSome_iff_exists.1 c3
        obtain rfl : X = 40 := by rw [← hpl]; unfold placeF; rw [getR_nat hN, hy]; simp only; rw [if_pos c4]
        exact tail_fail hw10 hn10 (by omega) hLd (by decide) rfl rfl rfl fin
      · obtain ⟨y, hy⟩ := Option.isSome_iff_exists.1 c3
        obtain rfl : X = 40 := by rw [← hpl]; unfold placeF; rw [getR_nat hN, hy]; simp only; rw [if_neg c4, if_pos c5]
        exact tail_fail hw10 hn10 (by omega) hLd (by decide) rfl rfl rfl fin
      · exfalso
        obtain ⟨y, hy⟩ := Option.isSome_iff_exists.1 c3
        apply hX0; rw [← hpl]; unfold placeF; rw [getR_nat hN, hy]; simp only; rw [if_neg c4, if_neg c5]
    · obtain ⟨⟨y, hy⟩, hn0, hn1, hm0, hm1, hpv⟩ := placeF_ok hpl
      have hr : 0 ≤ n * 32 + m ∧ n * 32 + m < 1024 := by omega
      have eW : xwriteF f s n m (List.replicate 128 u8) = s.write (n * 32 + m) (List.replicate 128 u8) := by unfold xwriteF; rw [if_neg (by rw [hpl]; exact fun e => e rfl)]
      rw [write_up hw.armed hw.down hr hlen] at eW
      have eR : ∀ a c, xreadE f { s with acts := a, cache := c } n m = 0 := fun a c => by unfold xreadE; rw [if_neg (by rw [hpl]; exact fun e => e rfl)]; simp [hw.down]
      rw [eW] at hx9 ⊢
      have hw9 := hw8.disk ho9 hx9 hB9 hw.armed hw.down
      have hn9 := hn8.disk ho9 hB9
      refine xread_spec (n := n) (m := m) hx9 (by simp only [List.length_append, List.length_cons, List.length_nil]; omega) (fun e => absurd (eR _ _) e) (fun _ g10 v ho10 hv hbv => ?_)
      refine onTup_of rfl ?_
      simp only [onSl]
      refine onTup_of rfl (onI_of ?_)
      have hw10 := hw9.fresh ho10
      have hn10 := hn9.fresh ho10
      obtain ⟨N, rfl⟩ : ∃ N : Nat, n = (N : Int) := ⟨n.toNat, by omega⟩
      obtain ⟨Q, rfl⟩ : ∃ Q : Nat, m = (Q : Int) := ⟨m.toNat, by omega⟩
      have hN : N < 32 := by omega
      have hPe : ((N : Int) * 32 + (Q : Int)).toNat = N * 32 + Q := by omega
      have hfN : f N = some y := by rw [← getR_nat (f := f) hN]; exact hy
      rw [hPe] at hw9 hbv hw10
      have hlook := fun k => look_put (s := s) (n := N * 32 + Q) (bs := List.replicate 128 u8) (a := IntKind.i64.wrap (s.acts + 1)) k
      have hsl2 : ({ s with acts := IntKind.i64.wrap (s.acts + 1), cache := s.cache ++ [(N * 32 + Q, List.replicate 128 u8)] } : DSt).cache.length = s.cache.length + 1 := by simp
      have hw10' : Walls h g10 L B9 f { s with acts := IntKind.i64.wrap (s.acts + 1), cache := s.cache ++ [(N * 32 + Q, List.replicate 128 u8)] } M := hw10
      have hbv' : Blk g10 v (byV (({ s with acts := IntKind.i64.wrap (s.acts + 1), cache := s.cache ++ [(N * 32 + Q, List.replicate 128 u8)] } : DSt).look (N * 32 + Q))).toArray := hbv
      clear hbv hw10
      generalize ({ s with acts := IntKind.i64.wrap (s.acts + 1), cache := s.cache ++ [(N * 32 + Q, List.replicate 128 u8)] } : DSt) = s1 at *
      have hlP : s1.look (N * 32 + Q) = List.replicate 128 u8 := by rw [hlook, if_pos rfl]
      rw [hlP] at hbv'
      have hlt9 := hw9.mine.lt
      have hvx : ¬ xOwn L B9 v := fun e => by have := hw9.x.lt e; omega
      have hvM : v ≠ M := by omega
      have hvf : h.size ≤ v := by have := hw9.only.1; omega
      refine bsel_dec (fun c => by omega) fun c1 => bsel_dec (fun c => by omega) fun c2 => ⟨⟨by omega, by omega⟩, ?_⟩
      simp only [Int.toNat_natCast, Nat.zero_add]
      refine ldB_mine hw10'.mine hN ?_
      rw [hfN]
      refine bsel_nb (fun e => by cases e) fun _ => bsel_dec (fun c => by omega) fun c4 => bsel_dec (fun c => by omega) fun c5 => ?_
      refine bsel_ndec (fun e => (e (by trivial)).elim) fun _ => bsel_ndec (fun e => (e (by trivial)).elim) fun _ => bsel_dec (fun _ => ?_) (fun e => (e (by trivial)).elim)
      refine run_spec (n := 128) (by decide) fun g11 q2 qc2 ho11 hbuf2 hfq2 => ?_
      simp only [onSl]
      have hbv2 := hbv'.only ho11 id
      have hw11 := hw10'.fresh ho11
      have hn11 := hn10.fresh ho11
      refine same_at hlen hlen ⟨_, 0, _, rfl, hbv2, At.all _, by simp⟩ hbuf2.slAt ?_
      rw [decide_eq_true rfl]
      simp only [onB]
      refine bsel_nb (fun e => by cases e) fun _ => ?_
      rw [w64 (n := 32 * (N : Int)) (by omega) (by omega), w64 (n := 32 * (N : Int) + (Q : Int)) (by omega) (by omega)]
      refine ⟨⟨by omega, by omega⟩, ?_⟩
      have hPe2 : (32 * (N : Int) + (Q : Int)).toNat = N * 32 + Q := by omega
      rw [hPe2]
      cases p with
      | none => have := hn11.w.buf.2.1; have := hn11.len; omega
      | some a =>
      obtain ⟨bp, csp, rfl, hbp, hcsp, -⟩ := id hn11.w.buf
      have hbp9 : bp < g9.size := by
        obtain ⟨b2, cs2, e2, hb2, -⟩ := hn9.w.buf
        cases e2; exact hb2.lt
      have hset := hn11.set (view' := s1.look) hbp (show N * 32 + Q < 1024 by omega) hbv2 hlP (fun k hk => by rw [hlook, if_neg hk]) hvx hvM hvf (by omega)
      simp only [onO, add_mk]
      have hbpx : ¬ xOwn L B9 bp := hn11.np _ rfl
      have hbpM : bp ≠ M := hn11.pM _ rfl
      refine st_at hbp (by simpa using hset.1) (one_ok _ rfl) ?_
      have hw12 := hw11.other hbpx hbpM (hn11.fp _ rfl) (splice csp (0 + (N * 32 + Q)) #[slV v])
      have hd12 : DiskAt (setB g11 bp (splice csp (0 + (N * 32 + Q)) #[slV v])) h.size B9 s1 := hLd ▸ hw12.x.disk
      refine looked_spec hd12 (by omega) hw12.down hset.2.len hset.2.w fun g13 ho13 => ?_
      simp only [onB]
      exact bsel_nb (fun e => by cases e) fun _ => ⟨⟨I + 1, B9, s1, _, rfl, by omega, by omega, hw12.fresh ho13, hset.2.fresh ho13⟩, by omega⟩
  · have hIl : I = l2.length := by omega
    have hd3 : DiskAt g7 h.size B s := hLd ▸ hw.x.disk
    refine whole_spec hd3 (by omega) hw.down fun g8 q qc hs ho8 hgl hW hfq hfg => ?_
    simp only [onSl]
    refine bsel_ndec (fun e => (e rfl).elim) fun _ => ?_
    have hn8 := hn.fresh ho8
    refine ⟨fun st h' => ∃ i : Nat, st.1 = (i : Int) ∧ i ≤ 1024 ∧ h' = g8, fun st _ => (1024 - st.1).toNat, ⟨0, rfl, by decide, rfl⟩, ?_⟩
    rintro ⟨i, ⟨⟩⟩ g9 ⟨J, hi, hJ, rfl⟩
    simp only at hi ⊢
    subst hi
    refine bsel_dec (fun hj => ?_) fun hj => k g9 (hw.only.trans ho8 fun _ _ x => x)
    have hJ2 : J < 1024 := by omega
    have hs1 : hs[J]? = some (hs[J]'(by omega)) := List.getElem?_eq_getElem (by omega)
    have hgs1 : gs[J]? = some (gs[J]'(by have := hn.len; omega)) := List.getElem?_eq_getElem (by have := hn.len; omega)
    have hbuf1 := hW.buf
    have hbuf2 := hn8.w.buf
    refine ⟨⟨by omega, by omega⟩, ?_⟩
    cases q with
    | none => have := hbuf1.2.1; omega
    | some a =>
    cases p with
    | none => have := hbuf2.2.1; have := hn.len; omega
    | some a' =>
    obtain ⟨b, cs, rfl, hb, hcs, hatt, -⟩ := hbuf1
    obtain ⟨b', cs', rfl, hb', hcs', hatt', -⟩ := hbuf2
    simp only [onO, add_mk, Nat.zero_add, Int.toNat_natCast, Nat.mul_one]
    refine ⟨⟨by omega, by omega⟩, ?_⟩
    have hc1 := hatt J (slV (hs[J]'(by omega))) (by rw [List.getElem?_map, hs1]; rfl)
    have hc2 := hatt' J (slV (gs[J]'(by have := hn.len; omega))) (by rw [List.getElem?_map, hgs1]; rfl)
    rw [Nat.zero_add] at hc1 hc2
    refine ldS_at hb hc1 (ldS_at hb' hc2 ?_)
    have hg1 := hW.blk J _ hs1
    have hg2 := hn8.w.blk J _ hgs1
    have hlen := hd3.look_length J
    refine same_at hlen hlen ⟨_, 0, _, rfl, hg1, At.all _, by simp⟩ ⟨_, 0, _, rfl, hg2, At.all _, by simp⟩ ?_
    rw [decide_eq_true rfl]
    simp only [onB]
    refine bsel_nb (fun e => by cases e) fun _ => ⟨⟨J + 1, ?_, by omega, trivial⟩, ?_⟩
    · rw [w64 (by omega) (by omega)]; rfl
    · rw [w64 (by omega) (by omega)]; omega

end Am
end Go.Proofs.Ytfijmoofdafoiaa
