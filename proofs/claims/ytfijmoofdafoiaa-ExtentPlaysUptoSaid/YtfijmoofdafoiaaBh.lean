/-
  ExtentPlays: one step of a script, on the program's and on the reference's.
-/
import Derived.Test.YtfijmoofdafoiaaBg
set_option linter.unusedSimpArgs false
set_option linter.unusedVariables false
set_option maxRecDepth 100000
namespace Go.Proofs.Ytfijmoofdafoiaa
open Go Go.RowKit
namespace Am

variable {T T' : Nat → Prop} {h h' h'' h0 : Hp} {s s' u u' : DSt} {f f' g g' : Nat → Option ExtS} {K : Value → Hp → Prop}
variable {lab : Nat → Nat} {d r m m' j : Nat} {B B' : Option Nat} {A C : Sd}

theorem RTabAt.ptr {F : Nat → Prop} {t : Nat} (hr : RTabAt h F t r m g) : ∃ v, Blk h t #[v, .pointer (some ⟨r, 0, none⟩)] := by
  obtain ⟨P, pc, cl, hb, -⟩ := hr; exact ⟨_, hb.blk⟩

theorem flush_cache (s : DSt) : s.flush.2.cache.length ≤ s.cache.length := by
  unfold DSt.flush
  split
  · exact Nat.zero_le _
  · show s.act.2.cache.length ≤ _; rw [s.act_cache]; exact Nat.le_refl _
theorem arm_cache (s : DSt) (n : Int) : (s.arm n).2.cache = s.cache := by
  unfold DSt.arm; split
  · rfl
  · split <;> rfl
theorem write_cache (s : DSt) (n : Int) (bs : List UInt8) : (s.write n bs).2.cache.length ≤ s.cache.length + 1 := by
  unfold DSt.write
  split
  · simp
  · split
    · simp
    · split
      · show (s.act.2.cache ++ [(n.toNat, bs)]).length ≤ _; rw [List.length_append, s.act_cache]; simp
      · show s.act.2.cache.length ≤ _; rw [s.act_cache]; omega
theorem xwrite_cache (f : Nat → Option ExtS) (s : DSt) (n q : Int) (bs : List UInt8) : (xwriteF f s n q bs).2.cache.length ≤ s.cache.length + 1 := by
  unfold xwriteF
  split
  · simp
  · exact write_cache _ _ _

theorem Buf.setByte {b n c I : Nat} {cs : Array Value} {xs : List UInt8} (hb : Buf h 1 (some ⟨b, 0, none⟩) n c (byV xs)) (hbk : Blk h b cs) (hI : I < n) (v : UInt8) : I + 1 ≤ cs.size ∧ Buf (setB h b (splice cs I #[byteV v])) 1 (some ⟨b, 0, none⟩) n c (byV (xs.set I v)) := by
  obtain ⟨b', cs', e, hb', hs', ha', hx', hl'⟩ := hb
  cases e
  obtain rfl := hbk.inj hb'
  rw [byV_length] at hx'
  refine ⟨by omega, ⟨b, _, rfl, hbk.setB, by rw [splice_size (by simp; omega)]; exact hs', ?_, by rw [byV_length, List.length_set]; exact hx', hl'⟩⟩
  have := ha'.splice_set (k := I) (v := byteV v) (by rw [byV_length]; omega)
  rw [Nat.zero_add] at this
  have e : (byV xs).set I (byteV v) = byV (xs.set I v) := by unfold byV; rw [List.map_set]
  rw [e] at this; exact this

theorem Buf.some {sz n c : Nat} {p : Option Addr} {xs : List Value} (hb : Buf h sz p n c xs) (hn : 0 < n) : ∃ b, p = some ⟨b, 0, none⟩ := by
  obtain ⟨b, cs, e, -⟩ := hb.blk hn; exact ⟨b, e⟩

structure OpOk (h0 : Hp) (o : OpS) : Prop where
  keep : RAt h0 o.kp (o.kl.map .bool)
  kl : o.kl.length ≤ 1048576
  n : o.n ≤ 9223372036854775807

theorem Duo.dT (hD : Duo h0 h lab d B s u r m A C) : ∀ b, dOwn d B b → lab b = 5 := by
  rintro b (rfl | hb)
  · exact hD.ld
  · exact hD.lB b hb

/-- The program's bytes are turned round, one after the other; nobody's blocks but that one. -/
theorem turn_loop {z n pc : Nat} {cs0 : Array Value} {p : Option Addr} {bs : List UInt8} {E : Hp → Prop} (hD : Duo h0 h lab d B s u r m A C) (hz : Zed h lab z cs0) (hb : Buf h 1 p n pc (byV bs)) (hn : n ≤ 1000) (hp : ∀ b, p = some (⟨b, 0, none⟩ : Addr) → lab b = 7 ∧ b ≠ z)
    (k : ∀ h' lab', Duo h0 h' lab' d B s u r m A C → Zed h' lab' z cs0 → E h') :
    LoopI (σ := (Int) × Unit) (fun sv h2 J =>
      bsel (decide (sv.1 < ((n : Nat) : Int))) (((0 : Int) ≤ sv.1 ∧ sv.1 < ((n : Nat) : Int)) ∧
      onO p fun a1 =>
      ldI h2 (a1.add (Int.toNat sv.1 * 1)) .u8 fun n1 =>
      ((0 : Int) ≤ sv.1 ∧ sv.1 < ((n : Nat) : Int)) ∧
      onO p fun a2 =>
      st h2 (a2.add (Int.toNat sv.1 * 1)) #[(.int .u8 (xorN .u8 n1))] fun h3 =>
      J ((IntKind.i64.wrap (sv.1 + 1)), ()) h3)
      (E h2)) (0, ()) h := by
  refine ⟨fun st h' => ∃ (I : Nat) (lab' : Nat → Nat) (xs : List UInt8), st.1 = (I : Int) ∧ I ≤ n ∧ Duo h0 h' lab' d B s u r m A C ∧ Zed h' lab' z cs0 ∧ Buf h' 1 p n pc (byV xs) ∧ (∀ b, p = some (⟨b, 0, none⟩ : Addr) → lab' b = 7 ∧ b ≠ z),
    fun st _ => ((n : Int) - st.1).toNat, ⟨0, lab, bs, rfl, Nat.zero_le _, hD, hz, hb, hp⟩, ?_⟩
  rintro ⟨i, ⟨⟩⟩ h' ⟨I, lab', xs, hi, hI, hD', hz', hb', hp'⟩
  simp only at hi ⊢
  subst hi
  refine bsel_dec (fun h1 => ?_) fun h1 => k h' lab' hD' hz'
  obtain ⟨b, cs, rfl, hbk, hs, ha, hle⟩ := hb'.blk (by omega)
  have hxl : xs.length = n := by have := hb'.len; rw [byV_length] at this; omega
  have hI2 : I < xs.length := by omega
  refine ⟨⟨by omega, h1⟩, ?_⟩
  simp only [onO, add_mk, Nat.zero_add, Int.toNat_natCast, Nat.mul_one]
  refine ldI_at hbk (m := ((xs[I]'hI2).toNat : Int)) (by have := ha I (byteV (xs[I]'hI2)) (by simp [byV, hI2]); rw [Nat.zero_add] at this; exact this) ⟨⟨by omega, h1⟩, ?_⟩
  obtain ⟨v, hv⟩ : ∃ v : UInt8, xorN .u8 ((xs[I]'hI2).toNat : Int) = (v.toNat : Int) := by unfold xorN; exact u8_of
  rw [hv]
  have hset := hb'.setByte hbk (show I < n by omega) v
  refine st_at hbk (by simp; omega) (one_ok _ rfl) ?_
  have ho : Only (fun x => x = b) h' (setB h' b (splice cs I #[byteV v])) := (Only.refl _ _).set (.inl rfl)
  refine ⟨⟨I + 1, relab h' lab' 7, xs.set I v, ?_, by omega, hD'.other ho (fun x e => e ▸ (hp' b rfl).1), ⟨hz'.1.ofSetB fun e => (hp' b rfl).2 e.symm, by rw [relab_lt hz'.1.lt]; exact hz'.2⟩, hset.2, fun b' e => ?_⟩, ?_⟩
  · rw [w64 (by omega) (by omega)]; rfl
  · cases e; exact ⟨by rw [relab_lt hbk.lt]; exact (hp' b rfl).1, (hp' b rfl).2⟩
  · rw [w64 (by omega) (by omega)]; omega

theorem k_true {b : Bool} (hb : b = true) (k : K (.bool true) h) : K (.bool b) h := by subst hb; exact k

theorem SlAt.nil8 (h : Hp) : SlAt h none (byV []) := rfl

set_option maxHeartbeats 4000000 in
theorem played_spec {o : OpS} (hD : Duo h0 h lab d B s s r m A C) (hA : A.g = A.f) (hm : m ≤ 10000000) (hok : OpOk h0 o)
    (k : ∀ h' lab' B' s' f', Duo h0 h' lab' d B' s' s' r (m + 2) { A with f := f', g := f' } C → K (.bool true) h') :
    Run tc.P 30 #[.pointer (some ⟨A.L.x, 0, none⟩), .pointer (some ⟨d, 0, none⟩), .pointer (some ⟨A.t, 0, none⟩), .agg (opV o).toArray] h K := by
  apply L30_run; unfold L30
  obtain ⟨L, f, g, t, i⟩ := A
  simp only at hA k ⊢
  subst hA
  have ho1 : Only (fun _ => False) h (h.push (.cells (opV o).toArray 67)) := (Only.refl _ _).push _
  have hz1 : Zed (h.push (.cells (opV o).toArray 67)) (relab h lab 7) h.size (opV o).toArray := ⟨Blk.new _ _ _, relab_ge (Nat.le_refl _)⟩
  have hD1 := hD.fresh ho1
  have hij : i = 1 ∨ i = 3 := hD.ij.imp (fun k => k.1) (fun k => k.1)
  clear ho1 hD
  generalize h.push (.cells (opV o).toArray 67) = h1 at *
  generalize relab h lab 7 = lab1 at *
  generalize h.size = z at *
  simp only [onPtr, add_mk, Nat.zero_add]
  have hx1 := hD1.a.x
  have hr1 := hD1.a.rt
  have hLd := hD1.a.hd
  have hcl := hD1.clen
  simp only at hx1 hr1 hLd
  have CL : ldR h1 ⟨z, 0, none⟩ 8 fun g2 => Run tc.P 42 #[(.pointer (some ⟨L.x, 0, none⟩)), (.pointer (some ⟨t, 0, none⟩)), (.agg g2)] h1 fun x3 h4 => onB x3 fun b5 => K (.bool b5) h4 := by
    refine ldR_at hz1.1 (At.all _) rfl (by simp [opV]) (claims_spec hD1 rfl hm fun h4 lab4 f4 hD4 => ?_)
    simp only [onB]
    exact k _ _ _ _ _ (hD4.more (by omega))
  refine ldI_at hz1.1 rfl ?_
  refine bsel_dec (fun e => bsel_dec (fun _ => CL) fun e' => absurd e e') fun _ => ?_
  refine bsel_dec (fun e => bsel_dec (fun _ => CL) fun e' => absurd e e') fun _ => ?_
  refine bsel_dec (fun e => bsel_dec (fun _ => CL) fun e' => absurd e e') fun _ => ?_
  refine bsel_dec (fun e => bsel_dec (fun _ => CL) fun e' => absurd e e') fun _ => ?_
  refine bsel_dec (fun _ => CL) fun _ => ?_
  clear CL
  -- a read
  refine bsel_dec (fun _ => ?_) fun _ => ?_
  · refine ldI_at hz1.1 rfl (ldI_at hz1.1 rfl ?_)
    by_cases hE : xreadE g s o.n o.sector = 0
    · refine xread_spec hx1 (by omega) (fun e => absurd hE e) fun _ h2 v ho2 hv hbv => ?_
      have hD2 := hD1.fresh ho2
      have hz2 := hz1.fresh ho2 7
      refine onTup_of rfl ?_
      try simp only [onSl]
      refine onTup_of rfl (onI_of ?_)
      refine ldI_at hz2.1 rfl (ldI_at hz2.1 rfl ?_)
      have hr2 := hD2.a.rt
      refine rxread_spec hr2 (by omega) hD2.rd (by omega) (fun e => absurd hE e) fun _ h3 v3 ho3 hv3 hbv3 => ?_
      have hD3 := hD2.fresh ho3
      refine onTup_of rfl ?_
      try simp only [onSl]
      refine onTup_of rfl (onI_of ?_)
      have hlen := hx1.disk.look_length (o.n * 32 + o.sector).toNat
      refine same_at hlen hlen ⟨_, 0, _, rfl, hbv.only ho3 id, At.all _, by simp⟩ ⟨_, 0, _, rfl, hbv3, At.all _, by simp⟩ ?_
      rw [decide_eq_true rfl]
      simp only [onB]
      refine bsel_true rfl ?_
      exact k_true (by simp) (k _ _ _ _ _ (hD3.more (by omega)))
    · refine xread_spec hx1 (by omega) (fun _ h2 ho2 => ?_) fun e => absurd e hE
      have hD2 := hD1.fresh ho2
      have hz2 := hz1.fresh ho2 7
      refine onTup_of rfl ?_
      try simp only [onSl]
      refine onTup_of rfl (onI_of ?_)
      refine ldI_at hz2.1 rfl (ldI_at hz2.1 rfl ?_)
      have hr2 := hD2.a.rt
      refine rxread_spec hr2 (by omega) hD2.rd (by omega) (fun _ => ?_) fun e => absurd e hE
      refine onTup_of rfl ?_
      try simp only [onSl]
      refine onTup_of rfl (onI_of ?_)
      refine same_at (xs := []) (bs := []) rfl rfl (SlAt.nil8 _) (SlAt.nil8 _) ?_
      rw [decide_eq_true rfl]
      simp only [onB]
      refine bsel_true rfl ?_
      exact k_true (by simp) (k _ _ _ _ _ (hD2.more (by omega)))
  -- a write
  refine bsel_dec (fun _ => ?_) fun _ => ?_
  · refine ldR_at hz1.1 (At.all _) rfl (by simp [opV]) ?_
    refine bytesOf_spec fun h2 p pc ho2 hb2 hf2 => ?_
    try simp only [onSl]
    have hD2 := hD1.fresh ho2
    have hz2 := hz1.fresh ho2 7
    have hx2 := hD2.a.x
    have hpl : ∀ b, p = some (⟨b, 0, none⟩ : Addr) → relab h1 lab1 7 b = 7 ∧ b ≠ z ∧ h1.size ≤ b := fun b e => by
      have := hf2 _ e
      simp only at this
      exact ⟨relab_ge this, by have := hz1.1.lt; omega, this⟩
    refine ldI_at hz2.1 rfl (ldI_at hz2.1 rfl ?_)
    have hdlt := hD1.ltd
    refine xwrite_at (opBytes_length o) hx2 (by omega) hb2.slAt (hf2.off fun b hb => by cases hb; rw [hLd]; exact hdlt) fun h3 B3 ho3 hx3 hB3 => ?_
    simp only at ho3 hx3
    rw [hLd] at ho3
    have hdT := hD2.dT
    have hcw := xwrite_cache g s o.n o.sector (opBytes o)
    have hD3 := hD2.disk ho3 (hLd ▸ hx3.disk) hB3 (Nat.le_add_right m 1) (by omega)
    have hz3 := hz2.away ho3 hdT (by decide)
    have hpo : ∀ b, p = some (⟨b, 0, none⟩ : Addr) → ¬ dOwn d B b := fun b e hx => by have := hdT b hx; have := (hpl b e).1; omega
    have hb3 : Buf h3 1 p (opN o) pc (byV (opBytes o)) := hb2.only ho3 fun a ha => by
      obtain ⟨P', hP', -⟩ := hb2.oP hf2
      rw [hP'] at ha
      cases P' with
      | none => cases ha
      | some b => cases ha; exact hpo b hP'
    generalize hXW : xwriteF g s o.n o.sector (opBytes o) = XW at *
    refine onI_of ?_
    refine ldR_at hz3.1 (At.all _) rfl (by simp [opV]) ?_
    refine bytesOf_spec fun h4 q qc ho4 hb4 hf4 => ?_
    try simp only [onSl]
    have hD4 := hD3.fresh ho4
    have hz4 := hz3.fresh ho4 7
    have hb3' := hb3.only ho4 fun _ _ => id
    refine same_at (opBytes_length o) (opBytes_length o) hb3'.slAt hb4.slAt ?_
    rw [decide_eq_true rfl]
    simp only [onB]
    refine bsel_nb (fun e => by cases e) fun _ => ?_
    refine turn_loop hD4 hz4 hb3' (by have := opN_lt o; omega) (fun b e => ?_) fun h5 lab5 hD5 hz5 => ?_
    · obtain ⟨x1, x2, x3⟩ := hpl b e
      have hlt2 : b < h2.size := by rw [e] at hb2; exact hb2.lt
      have hlt3 : b < h3.size := by have := ho3.1; omega
      rw [relab_lt hlt3, relab_lt hlt2]; exact ⟨x1, x2⟩
    refine ldI_at hz5.1 rfl (ldI_at hz5.1 rfl (ldR_at hz5.1 (At.all _) rfl (by simp [opV]) ?_))
    refine bytesOf_spec fun h6 p6 c6 ho6 hb6 hf6 => ?_
    try simp only [onSl]
    refine ⟨ho6.keep, ?_⟩
    have hD6 := hD5.fresh ho6
    have hr6 := hD6.a.rt
    refine rxwrite_spec (opBytes_length o) hr6 (by omega) hD6.rd (by omega) hb6.slAt (fun a ha e => by have := hf6 a ha; rw [relab_ge this] at e; cases e) fun h7 ho7 hd7 => ?_
    have hD7 := hD6.rdisk ho7 hd7 (by omega)
    refine onI_of ?_
    simp only [hXW] at hD7 ⊢
    exact k_true (by simp) (k _ _ _ _ _ hD7)
  -- a flush
  refine bsel_dec (fun _ => ?_) fun _ => ?_
  · refine xflush_spec hx1 (by omega) fun h2 B2 ho2 hx2 hB2 => ?_
    try simp only at ho2 hx2
    rw [hLd] at ho2
    have hfc := flush_cache s
    have hD2 := hD1.disk (ho2.mono fun b _ e => .inl e) (hLd ▸ hx2.disk) (fun b hb => by
      rcases hB2 with rfl | rfl
      · exact .inl hb
      · cases hb) (Nat.le_refl m) (by omega)
    refine onI_of ?_
    have hr2 := hD2.a.rt
    refine rxflush_spec hr2 hD2.rd (by omega) fun h3 ho3 hd3 => ?_
    have hD3 := hD2.rdisk ho3 hd3 (Nat.le_refl m)
    refine onI_of ?_
    exact k_true (by simp) (k _ _ _ _ _ (hD3.more (by omega)))
  -- an arm
  refine bsel_dec (fun _ => ?_) fun _ => ?_
  · refine ldI_at hz1.1 rfl ?_
    refine arm_spec (hLd ▸ hx1.disk) fun h2 ho2 hd2 => ?_
    have hac := arm_cache s o.n
    have hD2 := hD1.disk (ho2.mono fun b _ e => .inl e) hd2 (fun b hb => .inl hb) (Nat.le_refl m) (by rw [hac]; exact hcl)
    have hz2 := hz1.away (T := Od d) ho2 (fun b e => by cases e; exact hD1.ld) (by decide)
    refine onI_of ?_
    obtain ⟨v, hv⟩ := hD2.a.rt.ptr
    refine ldP_at hv rfl (ldI_at hz2.1 rfl ?_)
    refine rarm_spec hok.n hD2.rd fun h3 ho3 hd3 => ?_
    have hD3 := hD2.rdisk ho3 hd3.grow (Nat.le_refl m)
    refine onI_of ?_
    exact k_true (by simp) (k _ _ _ _ _ (hD3.more (by omega)))
  -- a crash
  refine bsel_dec (fun _ => ?_) fun _ => ?_
  · refine ldS_at hz1.1 rfl ?_
    refine flags_spec (hok.keep.only hD1.only).rowAt (by have := hok.kl; omega) fun h2 q qc ho2 hb2 hf2 => ?_
    try simp only [onSl]
    have hD2 := hD1.fresh ho2
    have hz2 := hz1.fresh ho2 7
    have hx2 := hD2.a.x
    have hdlt := hD1.ltd
    refine crash_spec (hLd ▸ hx2.disk) (by omega) hb2.slAt (hf2.off fun b hb => by cases hb; exact hdlt) fun h3 ho3 hd3 => ?_
    have hD3 := hD2.disk (ho3.mono fun b _ e => .inl e) hd3 (fun b hb => by cases hb) (Nat.le_refl m) (Nat.zero_le _)
    have hz3 := hz2.away (T := Od d) ho3 (fun b e => by cases e; exact hD2.ld) (by decide)
    refine onI_of ?_
    obtain ⟨v, hv⟩ := hD3.a.rt.ptr
    refine ldP_at hv rfl (ldS_at hz3.1 rfl ?_)
    refine rcrash_spec hD3.rd (by omega) (hok.keep.only hD3.only) (fun hne a ha e => ?_) fun h4 ho4 hd4 => ?_
    · have hl : 0 < o.kl.length := List.length_pos_iff.2 hne
      obtain ⟨a', ha', hc⟩ := hok.keep 0 (.bool (o.kl[0]'hl)) (by simp [hl])
      rw [ha] at ha'; cases ha'
      obtain ⟨c, e', fr, hb, -, -⟩ := cellH_block hc
      have hlt := lt_of_get hb
      rw [addr_block] at hlt
      have := hD3.old _ hlt
      try simp only at e
      omega
    have hD4 := hD3.rdisk ho4 hd4 (Nat.le_refl m)
    refine onI_of ?_
    exact k_true (by simp) (k _ _ _ _ _ (hD4.more (by omega)))
  -- a raw sector
  refine bsel_dec (fun _ => ?_) fun _ => ?_
  · refine ldI_at hz1.1 rfl ?_
    by_cases hE : 0 ≤ o.sector ∧ o.sector < 1024
    · refine raw_spec (hLd ▸ hx1.disk) (fun e => absurd hE e) fun _ h2 v ho2 hv hbv => ?_
      have hD2 := hD1.fresh ho2
      have hz2 := hz1.fresh ho2 7
      refine onTup_of rfl ?_
      try simp only [onSl]
      refine onTup_of rfl (onI_of ?_)
      obtain ⟨w, hw⟩ := hD2.a.rt.ptr
      refine ldP_at hw rfl (ldI_at hz2.1 rfl ?_)
      refine rraw_spec hD2.rd (by omega) (fun e => absurd hE e) fun _ h3 v3 ho3 hv3 hbv3 => ?_
      have hD3 := hD2.fresh ho3
      refine onTup_of rfl ?_
      try simp only [onSl]
      refine onTup_of rfl (onI_of ?_)
      have hlen : (s.med o.sector.toNat).length = 128 := by obtain ⟨cap, cs, hb⟩ := hx1.disk; exact hb.medl _
      refine same_at hlen hlen ⟨_, 0, _, rfl, hbv.only ho3 id, At.all _, by simp⟩ ⟨_, 0, _, rfl, hbv3, At.all _, by simp⟩ ?_
      rw [decide_eq_true rfl]
      simp only [onB]
      refine bsel_true rfl ?_
      exact k_true (by simp) (k _ _ _ _ _ (hD3.more (by omega)))
    · refine raw_spec (hLd ▸ hx1.disk) (fun _ => ?_) fun e => absurd e hE
      refine onTup_of rfl ?_
      try simp only [onSl]
      refine onTup_of rfl (onI_of ?_)
      obtain ⟨w, hw⟩ := hD1.a.rt.ptr
      refine ldP_at hw rfl (ldI_at hz1.1 rfl ?_)
      refine rraw_spec hD1.rd (by omega) (fun _ => ?_) fun e => absurd e hE
      refine onTup_of rfl ?_
      try simp only [onSl]
      refine onTup_of rfl (onI_of ?_)
      refine same_at (xs := []) (bs := []) rfl rfl (SlAt.nil8 _) (SlAt.nil8 _) ?_
      rw [decide_eq_true rfl]
      simp only [onB]
      refine bsel_true rfl ?_
      exact k_true (by simp) (k _ _ _ _ _ (hD1.more (by omega)))
  -- how many acts
  refine bsel_dec (fun _ => ?_) fun _ => ?_
  · refine acts_spec (hLd ▸ hx1.disk) ?_
    refine onI_of ?_
    obtain ⟨w, hw⟩ := hD1.a.rt.ptr
    refine ldP_at hw rfl ?_
    refine racts_spec hD1.rd ?_
    refine onI_of ?_
    exact k_true (by simp) (k _ _ _ _ _ (hD1.more (by omega)))
  · exact k _ _ _ _ _ (hD1.more (by omega))

end Am
end Go.Proofs.Ytfijmoofdafoiaa
