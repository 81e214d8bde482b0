/-
  ExtentApart: its function returns true: the walk.
-/
import Derived.Test.YtfijmoofdafoiaaAmY
set_option linter.unusedSimpArgs false
set_option linter.unusedVariables false
set_option maxRecDepth 100000
namespace Go.Proofs.Ytfijmoofdafoiaa
open Go Go.RowKit
namespace Am

variable {T T' : Nat → Prop} {h h' h'' : Hp} {L : Am.Loc} {B B' : Option Nat} {f f' : Nat → Option ExtS} {s s' : DSt} {d : Nat} {K : Value → Hp → Prop}

theorem slAddr_zero {sz l cap k : Nat} {p : Option Addr} {xs : List Value} (hb : Buf h sz p l cap xs) : slAddr p 0 cap k = p := by
  unfold slAddr
  cases p with
  | none => split <;> rfl
  | some a =>
    obtain ⟨b, cs, rfl, -⟩ := hb
    split
    · rfl
    · simp [add_mk]

theorem SlAt.take {p : Option Addr} {xs : List Value} (hs : SlAt h p xs) (n : Nat) : SlAt h p (xs.take n) := by
  cases p with
  | none => simp only [SlAt] at hs ⊢; subst hs; simp
  | some a =>
    obtain ⟨b, o, cs, rfl, hb, ha, hl⟩ := hs
    refine ⟨b, o, cs, rfl, hb, fun j x hj => ?_, by rw [List.length_take]; omega⟩
    rw [List.getElem?_take] at hj
    split at hj
    · exact ha j x hj
    · cases hj

theorem byV_take (l : List UInt8) (n : Nat) : (byV l).take n = byV (l.take n) := by simp [byV, List.map_take]

theorem Buf.block {sz l cap : Nat} {p : Option Addr} {xs : List Value} (hb : Buf h sz p l cap xs) (hl : 0 < l) : ∃ b cs, p = some ⟨b, 0, none⟩ ∧ Blk h b cs ∧ cs.size = cap * sz ∧ At cs 0 xs ∧ l ≤ cap := by
  cases p with
  | none => have := hb.2.1; omega
  | some a => obtain ⟨b, cs, rfl, h1, h2, h3, h4, h5⟩ := hb; exact ⟨b, cs, rfl, h1, h2, h3, h5⟩

theorem Blk.buf {g n : Nat} {xs : List Value} (hb : Blk h g xs.toArray) (hl : xs.length = n) : Buf h 1 (some ⟨g, 0, none⟩) n n xs :=
  ⟨g, _, rfl, hb, by simp [hl], At.all _, by simp [hl], Nat.le_refl _⟩

theorem Fresh.only {p : Option Addr} (hf : Fresh h p) (ho : Only T h' h'') (hs : h''.size ≤ h.size) : Fresh h' p := hf.mono (Nat.le_trans ho.1 hs)

theorem fill2 {z : Array Value} (hz : z.size = 1) {v w : Value} (hv : v.cells = #[v]) (hw : w.cells = #[w]) : fillL (zerosN z (2 * 1)).toList [(0, 1, v), (1, 1, w)] = some [v, w] := by
  have hl : (zerosN z (2 * 1)).toList.length = 2 := by unfold zerosN; simp
  generalize (zerosN z (2 * 1)).toList = l at hl
  match l, hl with
  | [a, b], _ => simp [fillL, hv, hw]

theorem apart_spec {n0 m0 : Int} {b : UInt8} (k : ∀ h', Only (fun _ => False) h h' → K (.bool true) h') :
    Run tc.P 4 #[.int .i64 n0, .int .i64 m0, .int .u8 (b.toNat : Int)] h K := by
  apply L4_run; unfold L4
  have hrn := umod (n := n0) (m := 32) (by decide) (by decide)
  have hrm := umod (n := m0) (m := 32) (by decide) (by decide)
  generalize IntKind.i64.wrap (Int.tmod (IntKind.u64.wrap n0) 32) = n at *
  generalize IntKind.i64.wrap (Int.tmod (IntKind.u64.wrap m0) 32) = m at *
  obtain ⟨N, rfl⟩ : ∃ N : Nat, n = (N : Int) := ⟨n.toNat, by omega⟩
  obtain ⟨Q, rfl⟩ : ∃ Q : Nat, m = (Q : Int) := ⟨m.toNat, by omega⟩
  have hN : N < 32 := by omega
  have hQ : Q < 32 := by omega
  refine new_spec fun g1 ho1 hd1 => ?_
  simp only [onP]
  refine ⟨by simp, bsel_b (fun e => by cases e) fun _ => ?_⟩
  refine extNew_spec hd1 fun g2 L ho2 hLd hLx hLt hLS hx2 => ?_
  simp only [onP]
  refine ⟨by simp, bsel_b (fun e => by cases e) fun _ => ?_⟩
  refine claim_spec hx2 fun g3 ho3 hx3 => ?_
  have hf0 : claimF (fun _ => none) (N : Int) 5 = (((N : Int), 0), upd (fun _ => none) N (some ⟨N, 5, 1⟩)) := by rw [claimF_at hN (by omega)]
  rw [hf0] at hx3 ⊢
  have hgr : getR (upd (fun _ => none) N (some (⟨N, 5, 1⟩ : ExtS))) (N : Int) = some ⟨N, 5, 1⟩ := by rw [getR_nat hN]; simp [upd]
  have hheld : heldFrom (upd (fun _ => none) N (some (⟨N, 5, 1⟩ : ExtS))) 0 = [(N, ⟨N, 5, 1⟩)] := by
    have : ∀ N, N < 32 → heldFrom (upd (fun _ => none) N (some (⟨(N : Nat), 5, 1⟩ : ExtS))) 0 = [(N, ⟨N, 5, 1⟩)] := by decide
    exact this N hN
  generalize upd (fun _ => none) N (some (⟨N, 5, 1⟩ : ExtS)) = f at *
  refine onTup_of rfl (onI_of (onTup_of rfl (onI_of ?_)))
  refine bsel_ndec (fun e => (e (by trivial)).elim) fun _ => bsel_ndec (fun e => (e (by trivial)).elim) fun _ => ?_
  refine run_spec (n := 129) (by decide) fun g4 pIn cIn ho4 hbIn hfIn => ?_
  simp only [onSl]
  obtain ⟨bIn, csIn, rfl, hkIn, hszIn, hatIn, hcIn⟩ := hbIn.block (by decide)
  refine ⟨⟨by decide, by omega⟩, ?_⟩
  rw [slAddr_zero hbIn]
  have hx4 := hx3.fresh ho4
  have hbInF := hfIn _ rfl
  have hst : ((byV (List.replicate 129 b)).take 128) = byV (List.replicate 128 b) := by rw [byV_take, List.take_replicate]; rfl
  have hsIn := hbIn.slAt.take 128
  rw [hst] at hsIn
  have hlen : (List.replicate 128 b).length = 128 := List.length_replicate
  have hlen9 : (List.replicate 129 b).length = 129 := List.length_replicate
  have hInx : ¬ xOwn L none bIn := fun e => by have := hx3.lt e; simp only at hbInF; omega
  have hrun := fun (K : Value → Hp → Prop) kk => xwrite_spec (n := (N : Int)) (m := (Q : Int)) (c := cIn - 0) (bs := List.replicate 128 b) (K := K) hx4 (by decide) hsIn (fun a ha e => by cases ha; exact hInx (.inr (.inr (.inl e)))) kk
  rw [hlen] at hrun
  refine hrun _ fun g5 B5 ho5 hx5 hB5 => ?_
  have hpl : placeF f (N : Int) (Q : Int) = ((N : Int) * 32 + Q, 0) := by
    unfold placeF; rw [hgr]; simp only; rw [if_neg (by omega), if_neg (by omega)]
  have hr : 0 ≤ (N : Int) * 32 + (Q : Int) ∧ (N : Int) * 32 + (Q : Int) < 1024 := by omega
  have eW : xwriteF f DSt.init N Q (List.replicate 128 b) = DSt.init.write ((N : Int) * 32 + Q) (List.replicate 128 b) := by unfold xwriteF; rw [if_neg (by rw [hpl]; exact fun e => e rfl)]
  rw [write_up rfl rfl hr hlen] at eW
  have hPe : ((N : Int) * 32 + (Q : Int)).toNat = N * 32 + Q := by omega
  rw [eW, hPe] at hx5
  rw [eW]
  have hlook := look_put (s := DSt.init) (n := N * 32 + Q) (bs := List.replicate 128 b) (a := IntKind.i64.wrap (DSt.init.acts + 1)) (N * 32 + Q)
  rw [if_pos rfl] at hlook
  have hdn : ({ DSt.init with acts := IntKind.i64.wrap (DSt.init.acts + 1), cache := DSt.init.cache ++ [(N * 32 + Q, List.replicate 128 b)] } : DSt).down = false := rfl
  have hcl : ({ DSt.init with acts := IntKind.i64.wrap (DSt.init.acts + 1), cache := DSt.init.cache ++ [(N * 32 + Q, List.replicate 128 b)] } : DSt).cache.length ≤ 5 := by simp [DSt.init]
  generalize ({ DSt.init with acts := IntKind.i64.wrap (DSt.init.acts + 1), cache := DSt.init.cache ++ [(N * 32 + Q, List.replicate 128 b)] } : DSt) = s at *
  have hInx5 : ¬ xOwn L B5 bIn := by
    rintro (e | e | e | e)
    · exact hInx (.inl e)
    · exact hInx (.inr (.inl e))
    · exact hInx (.inr (.inr (.inl e)))
    · rcases hB5 _ e with k | k
      · cases k
      · have := hkIn.lt; omega
  have hbIn5 := hbIn.only ho5 (fun a ha e => by cases ha; exact hInx (.inr (.inr e)))
  have hoA : Only (fun _ => False) h g5 := by
    have hoB : Only (fun _ => False) h g4 := ((ho1.trans ho2 fun _ _ x => x).trans ho3 fun b hb e => by have := ho1.1; rcases e with rfl | rfl <;> omega).trans ho4 fun _ _ x => x
    refine hoB.trans ho5 fun b hb e => ?_
    rcases e with rfl | e
    · rw [hLd] at hb; omega
    · cases e
  refine onI_of (bsel_ndec (fun e => (e (by trivial)).elim) fun _ => ?_)
  refine run_spec (n := 129) (by decide) fun g6 q6 c6 ho6 hb6 hf6 => ?_
  simp only [onSl]
  refine same_at hlen9 hlen9 (hbIn5.only ho6 fun _ _ => id).slAt hb6.slAt ?_
  rw [decide_eq_true rfl]
  simp only [onB]
  refine bsel_nb (fun e => by cases e) fun _ => ?_
  have hx6 := hx5.fresh ho6
  have hbIn6 := hbIn5.only ho6 fun _ _ => id
  have hfInh : h.size ≤ bIn := by have := ho1.1; have := ho2.1; have := ho3.1; simp only at hbInF; omega
  refine ⟨fun st h' => ∃ i : Nat, st.1 = (i : Int) ∧ i ≤ 129 ∧ Only (fun _ => False) h h' ∧ XAt h' L B5 f s ∧ ∃ cs, Blk h' bIn cs ∧ 129 ≤ cs.size, fun st _ => (129 - st.1).toNat, ⟨0, rfl, by decide, hoA.trans ho6 fun _ _ x => x, hx6, ?_⟩, ?_⟩
  · obtain ⟨b', cs', e, h1, h2, -, -, h5⟩ := hbIn6
    cases e; exact ⟨cs', h1, by rw [h2]; omega⟩
  rintro ⟨i, ⟨⟩⟩ g7 ⟨I, hi, hI, ho7, hx7, cs7, hk7, hs7⟩
  simp only at hi ⊢
  subst hi
  refine bsel_dec (fun hc => ?_) fun hc => ?_
  · refine ⟨⟨by omega, hc⟩, ?_⟩
    simp only [onO, add_mk, Int.toNat_natCast, Nat.zero_add, Nat.mul_one]
    refine st_at hk7 (by simp; omega) (one_ok _ rfl) ⟨⟨I + 1, by rw [w64 (by omega) (by omega)]; rfl, by omega, ho7.set (.inr hfInh), hx7.only (T := fun x => x = bIn) ((Only.refl _ _).set (.inl rfl)) (fun b hb e => hInx5 (e ▸ hb)), _, hk7.setB, by rw [splice_size (by simp; omega)]; exact hs7⟩, by rw [w64 (by omega) (by omega)]; omega⟩
  have eR : xreadE f s (N : Int) (Q : Int) = 0 := by unfold xreadE; rw [if_neg (by rw [hpl]; exact fun e => e rfl), hdn]; rfl
  refine xread_spec (n := (N : Int)) (m := (Q : Int)) hx7 (by omega) (fun e => absurd eR e) fun _ g8 v8 ho8 hv8 hk8 => ?_
  rw [hPe, hlook] at hk8
  refine onTup_of rfl ?_
  try simp only [onSl]
  refine onTup_of rfl (onI_of ?_)
  have hx8 := hx7.fresh ho8
  refine xread_spec (n := (N : Int)) (m := (Q : Int)) hx8 (by omega) (fun e => absurd eR e) fun _ g9 v9 ho9 hv9 hk9 => ?_
  rw [hPe, hlook] at hk9
  refine onTup_of rfl ?_
  try simp only [onSl]
  refine onTup_of rfl (onI_of ?_)
  refine bsel_ndec (fun e => (e (by trivial)).elim) fun _ => bsel_ndec (fun e => (e (by trivial)).elim) fun _ => bsel_ndec (fun e => (e (by trivial)).elim) fun _ => bsel_ndec (fun e => (e (by trivial)).elim) fun _ => ?_
  have hx9 := hx8.fresh ho9
  have hk89 := hk8.only ho9 id
  have ho79 := (ho7.trans ho8 fun _ _ x => x).trans ho9 fun _ _ x => x
  have h89 : v8 ≠ v9 := by have := hk8.lt; omega
  have hv8x : ¬ xOwn L B5 v8 := fun e => by have := hx7.lt e; omega
  have hv9x : ¬ xOwn L B5 v9 := fun e => by have := hx8.lt e; omega
  obtain ⟨b1, hb1⟩ := u8_of (n := (b.toNat : Int) + 1)
  obtain ⟨b2, hb2⟩ := u8_of (n := (b.toNat : Int) + 2)
  obtain ⟨b3, hb3⟩ := u8_of (n := (b.toNat : Int) + 3)
  obtain ⟨b4, hb4⟩ := u8_of (n := (b.toNat : Int) + 4)
  rw [hb1, hb2, hb3, hb4]
  refine ⟨fun st h' => ∃ i : Nat, st.1 = (i : Int) ∧ i ≤ 128 ∧ Only (fun _ => False) h h' ∧ XAt h' L B5 f s ∧ (∃ cs, Blk h' v8 cs ∧ cs.size = 128 ∧ At cs 0 (byV (List.replicate i b1))) ∧ ∃ cs, Blk h' v9 cs ∧ cs.size = 128 ∧ At cs 0 (byV (List.replicate i b2)), fun st _ => (128 - st.1).toNat,
    ⟨0, rfl, by decide, ho79, hx9, ⟨_, hk89, by simp [byV_length], At.nil _ _⟩, _, hk9, by simp [byV_length], At.nil _ _⟩, ?_⟩
  rintro ⟨i, ⟨⟩⟩ g10 ⟨I, hi, hI, ho10, hx10, ⟨cs8, hk8', hs8, ha8⟩, cs9, hk9', hs9, ha9⟩
  simp only at hi ⊢
  subst hi
  have hv8h : h.size ≤ v8 := by have := ho7.1; omega
  have hv9h : h.size ≤ v9 := by have := ho7.1; have := ho8.1; omega
  refine bsel_dec (fun hc => ?_) fun hc => ?_
  · have hI2 : I < 128 := by omega
    refine ⟨⟨by omega, by omega⟩, ?_⟩
    simp only [onO, add_mk, Int.toNat_natCast, Nat.zero_add, Nat.mul_one]
    refine st_at hk8' (by simp; omega) (one_ok _ rfl) ⟨⟨by omega, by omega⟩, ?_⟩
    have hk9'' := hk9'.ofSetB (g := v8) (cs' := splice cs8 I #[.int .u8 (b1.toNat : Int)]) h89.symm
    refine st_at hk9'' (by simp; omega) (one_ok _ rfl) ?_
    have ext : ∀ (cs : Array Value) (u : UInt8), cs.size = 128 → At cs 0 (byV (List.replicate I u)) → At (splice cs I #[.int .u8 (u.toNat : Int)]) 0 (byV (List.replicate (I + 1) u)) := by
      intro cs u hs ha
      have hroom : I + (#[Value.int .u8 (u.toNat : Int)] : Array Value).size ≤ cs.size := by simp; omega
      rw [List.replicate_succ', byV, List.map_append]
      refine (ha.splice_off hroom (.inl (by rw [byV_length]; simp))).append ?_
      have := At.splice_self hroom
      rw [byV_length, List.length_replicate, Nat.zero_add]; exact this
    have hx11 := (hx10.only (T := fun x => x = v8) ((Only.refl _ _).set (g := v8) (cs := splice cs8 I #[.int .u8 (b1.toNat : Int)]) (.inl rfl)) (fun b hb e => hv8x (e ▸ hb))).only (T := fun x => x = v9) ((Only.refl _ _).set (g := v9) (cs := splice cs9 I #[.int .u8 (b2.toNat : Int)]) (.inl rfl)) (fun b hb e => hv9x (e ▸ hb))
    refine ⟨⟨I + 1, by rw [w64 (by omega) (by omega)]; rfl, by omega, (ho10.set (.inr hv8h)).set (.inr hv9h), hx11, ⟨_, hk8'.setB.ofSetB h89, by rw [splice_size (by simp; omega)]; exact hs8, ext _ _ hs8 ha8⟩, _, hk9''.setB, by rw [splice_size (by simp; omega)]; exact hs9, ext _ _ hs9 ha9⟩, by rw [w64 (by omega) (by omega)]; omega⟩
  obtain rfl : I = 128 := by omega
  rw [fill2 (by rw [z5]; rfl) rfl rfl]
  simp only [onO]
  have hb8 : Buf g10 1 (some ⟨v8, 0, none⟩) 128 128 (byV (List.replicate 128 b1)) := ⟨_, _, rfl, hk8', hs8, ha8, by rw [byV_length]; rfl, Nat.le_refl _⟩
  have hb9 : Buf g10 1 (some ⟨v9, 0, none⟩) 128 128 (byV (List.replicate 128 b2)) := ⟨_, _, rfl, hk9', hs9, ha9, by rw [byV_length]; rfl, Nat.le_refl _⟩
  have one2 : ∀ (u : UInt8), ∀ v ∈ [byteV u, byteV u], v.oneCell' = true := by
    intro u v hv; simp at hv; subst hv; rfl
  have hop1 : Only (fun _ => False) g10 (g10.push (.cells [byteV b3, byteV b3].toArray 5)) := (Only.refl _ _).push _
  have hnew1 := Blk.new g10 [byteV b3, byteV b3].toArray 5
  refine apnd_buf (by rw [z5]; rfl) (hb8.only hop1 fun _ _ => id) (ys := [byteV b3, byteV b3]) (m := 2) ⟨_, _, _, rfl, hnew1, At.all _, by simp⟩ rfl (by decide) (one2 b3) (by decide) (by decide) ?_
  intro px cx g11 ho11 hbx hpx
  have ho11' : Only (fun x => x = v8) g10 g11 := (hop1.mono fun _ _ x => x.elim).trans ho11 fun x _ e => by cases e; rfl
  have hx11 := hx10.only ho11' fun b hb e => hv8x (e ▸ hb)
  have hb9' := hb9.only ho11' (fun a ha e => by cases ha; exact h89 e.symm)
  have hoh11 : Only (fun _ => False) h g11 := ho10.trans ho11' fun x hx e => by omega
  have hpx9 : Off px (fun x => x = v9) := by
    intro a ha e
    rcases hpx with rfl | ⟨q, rfl, hq⟩
    · cases ha; exact h89 e
    · cases ha; have h1 := hk9'.lt; have h2 : g10.size < q := Nat.lt_of_lt_of_le (by simp) hq; simp only at e; omega
  have hpxx : Off px (xOwn L B5) := by
    intro a ha e
    rcases hpx with rfl | ⟨q, rfl, hq⟩
    · cases ha; exact hv8x e
    · cases ha; have h1 := hx10.lt e; have h2 : g10.size < q := Nat.lt_of_lt_of_le (by simp) hq; simp only at h1; omega
  clear hb8 hb9 hpx hop1 hnew1 ho11
  rw [fill2 (by rw [z5]; rfl) rfl rfl]
  simp only [onO]
  have hop2 : Only (fun _ => False) g11 (g11.push (.cells [byteV b4, byteV b4].toArray 5)) := (Only.refl _ _).push _
  have hnew2 := Blk.new g11 [byteV b4, byteV b4].toArray 5
  refine apnd_buf (by rw [z5]; rfl) (hb9'.only hop2 fun _ _ => id) (ys := [byteV b4, byteV b4]) (m := 2) ⟨_, _, _, rfl, hnew2, At.all _, by simp⟩ rfl (by decide) (one2 b4) (by decide) (by decide) ?_
  intro py cy g12 ho12 hby hpy
  have ho12' : Only (fun x => x = v9) g11 g12 := (hop2.mono fun _ _ x => x.elim).trans ho12 fun x _ e => by cases e; rfl
  have hx12 := hx11.only ho12' fun b hb e => hv9x (e ▸ hb)
  have hbx12 := hbx.only ho12' hpx9
  have hoh12 : Only (fun _ => False) h g12 := hoh11.trans ho12' fun x hx e => by omega
  clear hpy hop2 hnew2 ho12 hb9' hx11 hbx
  refine list_spec hx12 fun g13 pl cl ho13 hbl hfl => ?_
  rw [hheld] at hbl ⊢
  simp only [onSl]
  have hx13 := hx12.fresh ho13
  refine list_spec hx13 fun g14 pm cm ho14 hbm hfm => ?_
  rw [hheld] at hbm ⊢
  simp only [onSl]
  refine bsel_ndec (fun e => (e (by trivial)).elim) fun _ => bsel_ndec (fun e => (e (by trivial)).elim) fun _ => ⟨⟨by decide, by simp⟩, ?_⟩
  have hx14 := hx13.fresh ho14
  have hbl14 := hbl.only ho14 fun _ _ => id
  have hbx14 := (hbx12.only ho13 fun _ _ => id).only ho14 fun _ _ => id
  have hby14 := (hby.only ho13 fun _ _ => id).only ho14 fun _ _ => id
  obtain ⟨bl, csl, rfl, hkl, hsl, hal, hcl1⟩ := hbl14.block (by simp)
  have hxl : flatX [(N, (⟨N, 5, 1⟩ : ExtS))] = extV ⟨N, 5, 1⟩ := by simp [flatX]
  rw [hxl] at hal hbm
  simp only [onO, add_mk, Nat.zero_add]
  have hflb : g12.size ≤ bl := hfl _ rfl
  have hblx : bl < g13.size := by obtain ⟨q, qs, e, h1, -⟩ := hbl; cases e; exact h1.lt
  refine st_at hkl (by simp; omega) (one_ok _ rfl) ?_
  have hol : Only (fun x => x = bl) g14 (setB g14 bl (splice csl (Int.toNat 0 * 3 + 0) #[.int .i64 40])) := (Only.refl _ _).set (.inl rfl)
  have hal2 : At (splice csl (Int.toNat 0 * 3 + 0) #[.int .i64 40]) 0 (extV ⟨40, 5, 1⟩) := hal.splice_set (k := 0) (v := .int .i64 40) (by simp [extV])
  have hbl15 : Buf (setB g14 bl (splice csl (Int.toNat 0 * 3 + 0) #[.int .i64 40])) 3 (some ⟨bl, 0, none⟩) 1 cl (extV ⟨40, 5, 1⟩) := ⟨bl, _, rfl, hkl.setB, by rw [splice_size (by simp; omega)]; exact hsl, hal2, rfl, hcl1⟩
  have hx15 := hx14.only hol fun b hb e => by have := hx12.lt hb; omega
  have offl : ∀ {p : Option Addr} {l c : Nat} {xs : List Value}, Buf g12 1 p l c xs → Off p (fun x => x = bl) := by
    intro p l c xs hb a ha e
    subst ha
    obtain ⟨q, qs, rfl, h1, -⟩ := hb
    have := h1.lt; simp only at e; omega
  have hbx15 := hbx14.only hol (offl hbx12)
  have hby15 := hby14.only hol (offl hby)
  have hbm15 := hbm.only hol (fun a ha e => by have := hfm a ha; omega)
  have hoh15 : Only (fun _ => False) h (setB g14 bl (splice csl (Int.toNat 0 * 3 + 0) #[.int .i64 40])) := ((hoh12.trans ho13 fun _ _ x => x).trans ho14 fun _ _ x => x).trans hol fun x hx e => by have := hoh12.1; omega
  have hfmb : ∀ a, pm = some a → a.block ≠ bl := fun a ha e => by have := hfm a ha; omega
  generalize setB g14 bl (splice csl (Int.toNat 0 * 3 + 0) #[.int .i64 40]) = g15 at *
  have hz75 : fillL (zeroOf tc.P 49).toList [(0, 1, (.int .i64 41))] = some (extV ⟨41, 0, 0⟩) := by rw [z49]; rfl
  rw [hz75]
  simp only [onO]
  rw [fillAll (n := 3) (by unfold zerosN; simp) rfl]
  simp only [onO]
  have hop3 : Only (fun _ => False) g15 (g15.push (.cells (extV ⟨41, 0, 0⟩).toArray 49)) := (Only.refl _ _).push _
  have hnew3 := Blk.new g15 (extV ⟨41, 0, 0⟩).toArray 49
  refine apnd_buf (by rw [z49]; rfl) (hbl15.only hop3 fun _ _ => id) (ys := extV ⟨41, 0, 0⟩) (m := 1) ⟨_, _, _, rfl, hnew3, At.all _, by simp⟩ rfl (by decide) (extV_one _) (by simp) (by decide) ?_
  intro pn cn g16 ho16 hbn hpn
  have ho16' : Only (fun x => x = bl) g15 g16 := (hop3.mono fun _ _ x => x.elim).trans ho16 fun x _ e => by cases e; rfl
  have hx16 := hx15.only ho16' fun b hb e => by have := hx12.lt hb; omega
  have hbx16 := hbx15.only ho16' (offl hbx12)
  have hby16 := hby15.only ho16' (offl hby)
  have hbm16 := hbm15.only ho16' (fun a ha e => hfmb a ha e)
  have hoh16 : Only (fun _ => False) h g16 := hoh15.trans ho16' fun x hx e => by have := hoh12.1; omega
  clear hop3 hnew3 ho16 ho16' hbl15 hx15 hbx15 hby15 hbm15 hoh15
  refine xread_spec (n := (N : Int)) (m := (Q : Int)) hx16 (by omega) (fun e => absurd eR e) fun _ g17 vz ho17 hvz hkz => ?_
  rw [hPe, hlook] at hkz
  refine onTup_of rfl ?_
  try simp only [onSl]
  refine onTup_of rfl (onI_of ?_)
  have hx17 := hx16.fresh ho17
  refine serial_spec hx17 fun g18 ho18 => ?_
  have hser : serialF f (N : Int) = (5, 0) := by unfold serialF; rw [hgr]
  rw [hser]
  refine onTup_of rfl (onI_of (onTup_of rfl (onI_of ?_)))
  refine bsel_dec (fun _ => ?_) fun e => (e (by trivial)).elim
  refine bsel_dec (fun _ => ?_) fun e => (e (by trivial)).elim
  refine bsel_dec (fun _ => ?_) fun e => (e (by trivial)).elim
  have hkz18 := hkz.only ho18 id
  refine run_spec (n := 128) (by decide) fun g19 q19 c19 ho19 hb19 _ => ?_
  simp only [onSl]
  refine same_at hlen hlen ⟨_, 0, _, rfl, hkz18.only ho19 id, At.all _, by simp⟩ hb19.slAt ?_
  rw [decide_eq_true rfl]
  simp only [onB]
  refine bsel_b (fun _ => ?_) fun e => by cases e
  have ho1619 := (ho17.trans ho18 fun _ _ x => x).trans ho19 fun _ _ x => x
  have hbx19 := hbx16.only ho1619 fun _ _ => id
  obtain ⟨bx, csx, rfl, -, -, -, hcx⟩ := hbx19.block (by decide)
  refine ⟨⟨by decide, by omega⟩, ?_⟩
  rw [slAddr_zero hbx19]
  have tk : ∀ (u v : UInt8), ((byV (List.replicate 128 u) ++ [byteV v, byteV v]).take 128) = byV (List.replicate 128 u) := by
    intro u v
    rw [List.take_append_of_le_length (by rw [byV_length]; simp), List.take_of_length_le (by rw [byV_length]; simp)]
  refine run_spec (n := 128) (by decide) fun g20 q20 c20 ho20 hb20 _ => ?_
  simp only [onSl]
  have hsx := (hbx19.only ho20 fun _ _ => id).slAt.take 128
  rw [tk] at hsx
  have hl1 : (List.replicate 128 b1).length = 128 := List.length_replicate
  have hl2 : (List.replicate 128 b2).length = 128 := List.length_replicate
  refine same_at hl1 hl1 hsx hb20.slAt ?_
  rw [decide_eq_true rfl]
  simp only [onB]
  refine bsel_b (fun _ => ?_) fun e => by cases e
  have ho1620 := ho1619.trans ho20 fun _ _ x => x
  have hby20 := hby16.only ho1620 fun _ _ => id
  obtain ⟨by', csy, rfl, -, -, -, hcy⟩ := hby20.block (by decide)
  refine ⟨⟨by decide, by omega⟩, ?_⟩
  rw [slAddr_zero hby20]
  refine run_spec (n := 128) (by decide) fun g21 q21 c21 ho21 hb21 _ => ?_
  simp only [onSl]
  have hsy := (hby20.only ho21 fun _ _ => id).slAt.take 128
  rw [tk] at hsy
  refine same_at hl2 hl2 hsy hb21.slAt ?_
  rw [decide_eq_true rfl]
  simp only [onB]
  refine bsel_b (fun _ => ?_) fun e => by cases e
  have ho1621 := ho1620.trans ho21 fun _ _ x => x
  have hbm21 := hbm16.only ho1621 fun _ _ => id
  have hbn21 := hbn.only ho1621 fun _ _ => id
  obtain ⟨bm, csm, rfl, hkm, hsm, ham, hcm⟩ := hbm21.block (by simp)
  obtain ⟨bn, csn, rfl, hkn, hsn, han, hcn⟩ := hbn21.block (by simp)
  refine ⟨⟨by decide, by simp⟩, ?_⟩
  simp only [onO, add_mk]
  rw [fill49]
  simp only [onO]
  have hcm1 : 1 ≤ cm := by simpa using hcm
  refine ldR_at hkm (xs := extV ⟨N, 5, 1⟩) ham rfl (by rw [hsm]; show 0 + 0 * 3 + 3 ≤ _; omega) ⟨rfl, rfl, true, ?_, ?_⟩
  · simp [extV, eqInts]
  · refine bsel_b (fun _ => ?_) fun e => by cases e
    refine ⟨⟨by decide, by simp⟩, ?_⟩
    refine ldI_at hkn (m := 40) (han 0 _ rfl) ?_
    rw [decide_eq_true rfl]
    exact k g21 (hoh16.trans ho1621 fun _ _ x => x)

end Am
end Go.Proofs.Ytfijmoofdafoiaa
