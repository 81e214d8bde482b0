/-
  The reference's disk: reading, writing, flushing, crashing.
-/
import Derived.Test.YtfijmoofdafoiaaBa
set_option linter.unusedSimpArgs false
set_option linter.unusedVariables false
set_option maxRecDepth 100000
namespace Go.Proofs.Ytfijmoofdafoiaa
open Go Go.RowKit
namespace Am

variable {T T' : Nat → Prop} {h h' h'' : Hp} {F F' : Nat → Prop} {s s' : DSt} {K : Value → Hp → Prop}
variable {r : Nat} {P Q : Option Nat} {pc qc : Nat} {l ld wt : List RRec} {a : Int} {dn : Bool} {ct : Int}

theorem z128 : zerosN (zeroOf tc.P 5) (Int.toNat 128 * 1) = (byV (List.replicate 128 0)).toArray := by
  have e : (Int.toNat 128 * 1) = 128 := rfl
  rw [e, zerosN_u8]; unfold byV; rw [List.map_replicate]

theorem z116 : zeroOf tc.P 116 = #[.int .i64 0, .int .i64 0, .slice none 0 0] := by kernel_rfl

theorem fill3 {t : TypeId} {n : Nat} {z cs : Array Value} (hz : z.size = n) (hn : n ≠ 0) (hc : cs.size = n) : fillL (zerosN z (1 * n)).toList [(0, n, .agg cs)] = some cs.toList := by
  refine fillAll ?_ hc
  unfold zerosN; simp

/-- Of two lists of records, the first one played over a new row of zeros. -/
theorem RecsAt.play {g c n : Nat} {bs : List UInt8} (hr : RecsAt h F r P pc l) (hb : Blk h g (byV bs).toArray) (hbl : bs.length = 128) (hP : P ≠ some g) (hg : ∀ e ∈ l, e.g ≠ g) (hll : l.length ≤ 100000000)
    (k : ∀ h', Only (fun b => b = g) h h' → Blk h' g (byV (lookF bs (l.map RRec.pr) n)).toArray → K (.tuple #[]) h') :
    Run tc.P 72 #[.slice (some ⟨g, 0, none⟩) 128 c, .slice (oP P) l.length pc, .int .i64 (n : Int)] h K :=
  rplay_spec hb hbl hr.buf hP (fun e he => ⟨hg e he, (hr.dat e he).2.2.2.1, (hr.dat e he).2.2.2.2.2⟩) hll k

theorem rraw_spec {m : Nat} {n : Int} (hd : RDiskAt h F r m s) (hm : m ≤ 100000000)
    (k0 : ¬ (0 ≤ n ∧ n < 1024) → K (.tuple #[.slice none 0 0, .int .i64 40]) h)
    (k2 : 0 ≤ n ∧ n < 1024 → ∀ h' g, Only (fun _ => False) h h' → h.size ≤ g → Blk h' g (byV (s.med n.toNat)).toArray → K (.tuple #[.slice (some ⟨g, 0, none⟩) 128 128, .int .i64 0]) h') :
    Run tc.P 50 #[.pointer (some ⟨r, 0, none⟩), .int .i64 n] h K := by
  apply L50_run; unfold L50
  refine rthere_spec ?_
  simp only [onB]
  refine bsel_ndec k0 fun hn => ?_
  obtain ⟨N, rfl⟩ : ∃ N : Nat, n = (N : Int) := ⟨n.toNat, by omega⟩
  obtain ⟨P, pc, Q, qc, ld, wt, hb, hr, hlm⟩ := hd
  simp only [mkSl]
  refine onI_of (onI_of ⟨by decide, ?_⟩)
  rw [if_neg (by decide), z128]
  have hnew := Blk.new h (byV (List.replicate 128 0)).toArray 5
  have ho1 : Only (fun _ => False) h (h.push (.cells (byV (List.replicate 128 0)).toArray 5)) := (Only.refl _ _).push _
  have hb1 := hb.only ho1 fun _ _ => id
  simp only [onPtr, add_mk, Nat.zero_add]
  refine ldS_at hb1.blk rfl ?_
  refine hb1.l.play (g := h.size) (n := N) hnew List.length_replicate (fun e => by have := hb.l.lt e; omega) (fun e he k => by have := (hb.l.dat e he).2.2.2.1.lt; omega) (by omega) fun h2 ho2 hb2 => ?_
  refine k2 hn h2 h.size (ho1.trans ho2 fun b hb e => by omega) (Nat.le_refl _) ?_
  rw [Int.toNat_natCast, hr.med]; exact hb2

theorem rread_spec {m : Nat} {n : Int} (hd : RDiskAt h F r m s) (hm : m ≤ 100000000)
    (k0 : ¬ (0 ≤ n ∧ n < 1024) → K (.tuple #[.slice none 0 0, .int .i64 40]) h)
    (k1 : 0 ≤ n ∧ n < 1024 → s.down = true → K (.tuple #[.slice none 0 0, .int .i64 42]) h)
    (k2 : 0 ≤ n ∧ n < 1024 → s.down = false → ∀ h' g, Only (fun _ => False) h h' → h.size ≤ g → Blk h' g (byV (s.look n.toNat)).toArray → K (.tuple #[.slice (some ⟨g, 0, none⟩) 128 128, .int .i64 0]) h') :
    Run tc.P 68 #[.pointer (some ⟨r, 0, none⟩), .int .i64 n] h K := by
  apply L68_run; unfold L68
  refine rthere_spec ?_
  simp only [onB]
  refine bsel_ndec k0 fun hn => ?_
  obtain ⟨N, rfl⟩ : ∃ N : Nat, n = (N : Int) := ⟨n.toNat, by omega⟩
  obtain ⟨P, pc, Q, qc, ld, wt, hb, hr, hlm⟩ := hd
  simp only [onPtr, add_mk, Nat.zero_add]
  refine ldB_at hb.blk rfl (bsel_b (fun h0 => k1 hn h0) fun h0 => ?_)
  simp only [mkSl]
  refine onI_of (onI_of ⟨by decide, ?_⟩)
  rw [if_neg (by decide), z128]
  have hnew := Blk.new h (byV (List.replicate 128 0)).toArray 5
  have ho1 : Only (fun _ => False) h (h.push (.cells (byV (List.replicate 128 0)).toArray 5)) := (Only.refl _ _).push _
  have hb1 := hb.only ho1 fun _ _ => id
  have hPl : P ≠ some h.size := fun e => by have := hb.l.lt e; omega
  have hQl : Q ≠ some h.size := fun e => by have := hb.w.lt e; omega
  have hgl : ∀ e ∈ ld, e.g ≠ h.size := fun e he k => by have := (hb.l.dat e he).2.2.2.1.lt; omega
  have hgw : ∀ e ∈ wt, e.g ≠ h.size := fun e he k => by have := (hb.w.dat e he).2.2.2.1.lt; omega
  refine ldS_at hb1.blk rfl ?_
  refine hb1.l.play (g := h.size) (n := N) hnew List.length_replicate hPl hgl (by omega) fun h2 ho2 hb2 => ?_
  have hlt := hb.blk.lt
  have hbl2 := hb1.blk.only ho2 (by omega)
  have hw2 := hb1.w.only ho2 (fun b e k => hQl (k ▸ e)) hgw
  refine ldS_at hbl2 rfl ?_
  have hlen : (lookF (List.replicate 128 0) (ld.map RRec.pr) N).length = 128 := lookF_length' _ _ List.length_replicate fun e he => by
    obtain ⟨x, hx, rfl⟩ := List.mem_map.1 he
    exact (hb.l.dat x hx).2.2.2.2.2
  refine hw2.play (g := h.size) (n := N) hb2 hlen hQl hgw (by omega) fun h3 ho3 hb3 => ?_
  refine k2 hn h0 h3 h.size ((ho1.trans ho2 fun b hb e => by omega).trans ho3 fun b hb e => by omega) (Nat.le_refl _) ?_
  rw [Int.toNat_natCast]
  unfold DSt.look
  rw [hr.med, hr.cache]; exact hb3

theorem Buf.blk {sz l cap : Nat} {p : Option Addr} {xs : List Value} (hb : Buf h sz p l cap xs) (hl : 0 < l) : ∃ b cs, p = some ⟨b, 0, none⟩ ∧ Blk h b cs ∧ cs.size = cap * sz ∧ At cs 0 xs ∧ l ≤ cap := by
  cases p with
  | none => have := hb.2.1; omega
  | some a => obtain ⟨b, cs, rfl, h1, h2, h3, h4, h5⟩ := hb; exact ⟨b, cs, rfl, h1, h2, h3, h5⟩

theorem copied_spec {p : Option Addr} {bs : List UInt8} {n c : Nat} (hn : bs.length = n) (hp : SlAt h p (byV bs)) (hl : bs.length ≤ 100000000)
    (k : ∀ h' q cap, Only (fun _ => False) h h' → Buf h' 1 q n cap (byV bs) → Fresh h q → K (.slice q n cap) h') : Run tc.P 76 #[.slice p n c] h K := by
  subst hn
  apply L76_run; unfold L76
  refine apnd_row (by rw [z5]; rfl) (Buf.nil _ _) hp.rowAt (by simp [byV_length]) (by decide) (byV_one bs) (by omega) (by decide) fun p' cap' h' ho hb hp' => ?_
  rw [Nat.zero_add] at hb ⊢
  refine k h' p' cap' (ho.mono fun b hb e => by cases e) (by simpa using hb) fun a ha => ?_
  rcases hp' with rfl | ⟨b, rfl, hg⟩
  · cases ha
  · injection ha with ha; subst ha; exact hg

theorem Gr.mono {b : Nat} (hs : h.size ≤ h'.size) (hb : Gr F h' b) : Gr F h b := by
  rcases hb with hb | hb
  · exact .inl hb
  · exact .inr (by omega)

theorem rwrite_spec {m : Nat} {n : Int} {p : Option Addr} {bs : List UInt8} {c : Nat} (hd : RDiskAt h F r m s) (hm : m ≤ 100000000) (hp : SlAt h p (byV bs)) (hpd : Off p F)
    (k : ∀ h', Only F h h' → RDiskAt h' (Gr F h) r (m + 1) (s.write n bs).2 → K (.int .i64 (s.write n bs).1) h') :
    Run tc.P 69 #[.pointer (some ⟨r, 0, none⟩), .int .i64 n, .slice p bs.length c] h K := by
  apply L69_run; unfold L69
  refine rthere_spec ?_
  simp only [onB]
  refine bsel_ndec (fun hn => ?_) fun hn => ?_
  · have e : s.write n bs = (40, s) := by simp only [DSt.write]; rw [if_pos hn]
    rw [e] at k; exact k h (Only.refl _ _) (hd.grow.more (by omega))
  refine bsel_ndec (fun h0 => ?_) fun h0 => ?_
  · have e : s.write n bs = (41, s) := by simp only [DSt.write]; rw [if_neg (by simpa using hn), if_pos (by omega)]
    rw [e] at k; exact k h (Only.refl _ _) (hd.grow.more (by omega))
  have hbl : bs.length = 128 := by omega
  obtain ⟨N, rfl⟩ : ∃ N : Nat, n = (N : Int) := ⟨n.toNat, by omega⟩
  have hN : N < 1024 := by omega
  refine ract_spec hd fun h1 ho1 hd1 => ?_
  refine bsel_nb (fun h2 => ?_) fun h2 => ?_
  · have e : s.write N bs = (42, s.act.2) := by simp only [DSt.write]; rw [if_neg (by simpa using hn), if_neg (by omega), h2]; rfl
    rw [e] at k; exact k h1 ho1 (hd1.grow.more (by omega))
  have e : s.write N bs = (0, s.act.2.put N bs) := by simp only [DSt.write]; rw [if_neg (by simpa using hn), if_neg (by omega), h2]; rfl
  rw [e] at k
  have hp1 := hp.only ho1 hpd
  generalize s.act.2 = t at *
  obtain ⟨P, pc, Q, qc, ld, wt, hb, hr, hlm⟩ := hd1
  simp only [onPtr, add_mk, Nat.zero_add]
  refine ldS_at hb.blk rfl ?_
  rw [hbl]
  refine copied_spec hbl hp1 (by omega) fun h3 q qcap ho3 hq hfq => ?_
  simp only [onSl]
  refine ⟨ho3.keep, ?_⟩
  obtain ⟨g, cs, rfl, hg, hgs, hga, hgl⟩ := hq.blk (by decide)
  have hf1 : fillL (zeroOf tc.P 116).toList [(0, 1, (.int .i64 (N : Int))), (2, 1, (.slice (some ⟨g, 0, none⟩) 128 qcap))] = some (recV ⟨N, bs, g, qcap⟩) := by rw [z116]; rfl
  rw [hf1]
  simp only [onO]
  have hf2 := fill3 (t := 0) (z := zeroOf tc.P 116) (cs := (recV ⟨N, bs, g, qcap⟩).toArray) (n := 3) (by rw [z116]; rfl) (by decide) rfl
  rw [hf2]
  simp only [onO]
  have ho4 : Only (fun _ => False) h3 (h3.push (.cells (recV ⟨N, bs, g, qcap⟩).toArray 116)) := (Only.refl _ _).push _
  have ho34 := ho3.trans ho4 fun _ _ x => x
  refine ⟨ho34.keep, ?_⟩
  have hnew := Blk.new h3 (recV ⟨N, bs, g, qcap⟩).toArray 116
  have hb4 := hb.only ho34 fun _ _ => id
  have hg4 := hg.only ho4 id
  have hgf : h1.size ≤ g := hfq _ rfl
  have hlt4 : g < h3.size := hg.lt
  have hs4 : h3.size < (h3.push (.cells (recV ⟨N, bs, g, qcap⟩).toArray 116)).size := by simp
  generalize h3.push (.cells (recV ⟨N, bs, g, qcap⟩).toArray 116) = h4 at *
  refine apnd_buf (by rw [z116]; rfl) hb4.w.buf (ys := recV ⟨N, bs, g, qcap⟩) ⟨_, _, _, rfl, hnew, At.all _, by simp⟩ rfl (by decide) (recV_one _) (by omega) (by decide) fun p' cap' h5 ho5 hb5 hp5 => ?_
  obtain ⟨Q', rfl, hQ'⟩ := oP_new hp5
  have hcells : (Value.slice (oP Q') (wt.length + 1) cap').cells = #[Value.slice (oP Q') (wt.length + 1) cap'] := rfl
  rw [hcells]
  refine szIs_of rfl ?_
  have ho45 : Only (fun b => oP Q = some ⟨b, 0, none⟩) h1 h5 := (ho34.mono fun _ _ x => x.elim).trans ho5 fun _ _ x => x
  have hbuf5 : Buf h5 3 (oP Q') (wt ++ [(⟨N, bs, g, qcap⟩ : RRec)]).length cap' ((wt ++ [(⟨N, bs, g, qcap⟩ : RRec)]).flatMap recV) := by
    rw [List.length_append, List.flatMap_append]; simpa using hb5
  have hQs : Q' = Q ∨ ∃ b, Q' = some b ∧ h1.size ≤ b := by
    rcases hQ' with k | ⟨b, k, hk⟩
    · exact .inl k
    · exact .inr ⟨b, k, by have := ho34.1; omega⟩
  have hgQ : Q ≠ some g := fun e => by have := hb.w.lt e; omega
  have hset := hb.setW (x := ⟨N, bs, g, qcap⟩) ho45 hbuf5 hQs ⟨hgf, fun e => by
    rcases hQ' with k | ⟨b, k, hk⟩
    · rw [k] at e; exact hgQ e
    · rw [k] at e; injection e with e; have e' : b = g := e; omega, ⟨cs, hg4.only ho5 fun e => hgQ (oP_block e), hga⟩, hN, hbl⟩
  have hrblk := hb.blk.only ho45 fun e => (hb.w.fp _ (oP_block e)).2 rfl
  refine st_at hrblk (by simp) (one_ok _ rfl) ?_
  have hll : (wt ++ [(⟨N, bs, g, qcap⟩ : RRec)]).length = wt.length + 1 := by simp
  refine k _ ?_ ⟨P, pc, Q', cap', ld, wt ++ [⟨N, bs, g, qcap⟩], ?_, ⟨?_, hr.med, hr.arm⟩, by rw [hll]; omega⟩
  · refine (ho1.trans ho45 fun b _ e => ?_).set (.inl hb.fr)
    exact (hb.w.fp _ (oP_block e)).1
  · rw [hll] at hset
    have hset2 := hset.mono (F' := Gr F h) fun b _ hx => Gr.mono ho1.1 hx
    rw [← hll]
    rw [hll]
    exact hset2
  · show t.cache ++ [(N, bs)] = _
    rw [hr.cache, List.map_append]; rfl

def keepL {α : Type} (kept : Nat → Bool) : Nat → List α → List α
  | _, [] => []
  | i, e :: r => (if kept i then [e] else []) ++ keepL kept (i + 1) r

theorem keepL_append {α : Type} (kept : Nat → Bool) : ∀ (a b : List α) (i : Nat), keepL kept i (a ++ b) = keepL kept i a ++ keepL kept (i + a.length) b := by
  intro a
  induction a with
  | nil => intro b i; rfl
  | cons e r ih => intro b i; simp only [List.cons_append, keepL]; rw [ih, List.append_assoc, List.length_cons]; congr 3; omega
theorem keepL_all {α : Type} : ∀ (l : List α) (i : Nat), keepL (fun _ => true) i l = l := by
  intro l
  induction l with
  | nil => intro i; rfl
  | cons e r ih => intro i; simp only [keepL, if_true]; rw [ih]; rfl
theorem keepL_map {α β : Type} (kept : Nat → Bool) (f : α → β) : ∀ (l : List α) (i : Nat), keepL kept i (l.map f) = (keepL kept i l).map f := by
  intro l
  induction l with
  | nil => intro i; rfl
  | cons e r ih => intro i; simp only [keepL, List.map_cons, List.map_append]; rw [ih]; split <;> rfl
theorem keepL_length {α : Type} (kept : Nat → Bool) : ∀ (l : List α) (i : Nat), (keepL kept i l).length ≤ l.length := by
  intro l
  induction l with
  | nil => intro i; exact Nat.le_refl _
  | cons e r ih => intro i; have := ih (i + 1); simp only [keepL, List.length_append, List.length_cons]; split <;> simp <;> omega
theorem drainN_keep (kept : Nat → Bool) : ∀ (l : List (Nat × List UInt8)) (i : Nat), drainN kept i l = (keepL kept i l).length := by
  intro l
  induction l with
  | nil => intro i; rfl
  | cons e r ih => intro i; simp only [drainN, keepL, List.length_append]; rw [ih]; split <;> rfl
theorem drainM_lookF (kept : Nat → Bool) (n : Nat) : ∀ (l : List (Nat × List UInt8)) (i : Nat) (m : Nat → List UInt8), drainM kept i l m n = lookF (m n) (keepL kept i l) n := by
  intro l
  induction l with
  | nil => intro i m; rfl
  | cons e r ih =>
    intro i m
    simp only [drainM, keepL]
    rw [ih]
    split
    · show lookF (upd m e.1 e.2 n) _ n = lookF (if e.1 = n then e.2 else m n) _ n
      unfold upd
      by_cases h : n = e.1
      · rw [if_pos h, if_pos h.symm]; rfl
      · rw [if_neg h, if_neg (fun x => h x.symm)]; rfl
    · rfl
theorem lookF_append (m : List UInt8) (a b : List (Nat × List UInt8)) (n : Nat) : lookF m (a ++ b) n = lookF (lookF m a n) b n := by unfold lookF; rw [List.foldl_append]

theorem rflush_spec {m : Nat} (hd : RDiskAt h F r m s) (hm : m ≤ 100000000)
    (k : ∀ h', Only F h h' → RDiskAt h' (Gr F h) r m s.flush.2 → K (.int .i64 s.flush.1) h') : Run tc.P 70 #[.pointer (some ⟨r, 0, none⟩)] h K := by
  apply L70_run; unfold L70
  refine ract_spec hd fun h1 ho1 hd1 => ?_
  simp only [onB]
  refine bsel_nb (fun h2 => ?_) fun h2 => ?_
  · have e : s.flush = (42, s.act.2) := by simp [DSt.flush, h2]
    rw [e] at k; exact k h1 ho1 hd1.grow
  have e : s.flush = (0, s.act.2.drain fun _ => true) := by simp [DSt.flush, h2]
  rw [e] at k
  generalize s.act.2 = t at *
  obtain ⟨P, pc, Q, qc, ld, wt, hb, hr, hlm⟩ := hd1
  simp only [onPtr, add_mk, Nat.zero_add]
  refine ldS_at hb.blk rfl (ldS_at hb.blk rfl ?_)
  refine apnd_row (by rw [z116]; rfl) hb.l.buf hb.w.buf.slAt.rowAt (recsV_length wt) (by decide) (recsV_one wt) (by omega) (by decide) fun p' cap' h3 ho3 hb3 hp3 => ?_
  obtain ⟨P', rfl, hP'⟩ := oP_new hp3
  have hcells : (Value.slice (oP P') (ld.length + wt.length) cap').cells = #[Value.slice (oP P') (ld.length + wt.length) cap'] := rfl
  rw [hcells]
  refine szIs_of rfl ?_
  rw [← List.flatMap_append, ← List.length_append] at hb3
  have hset := hb.setL ho3 hb3 hP' fun e he => List.mem_append.1 he
  have hrblk := hb.blk.only ho3 fun e => (hb.l.fp _ (oP_block e)).2 rfl
  refine st_at hrblk (by simp) (one_ok _ rfl) ?_
  rw [List.length_append] at hset
  have hset' := hset.mono (F' := Gr F h) fun b _ hx => Gr.mono ho1.1 hx
  have hcl := hset'.clearW
  refine st_at hset'.blk (by simp) (one_ok _ rfl) ?_
  refine k _ ?_ ⟨P', cap', none, 0, ld ++ wt, [], ?_, ⟨rfl, fun n => ?_, hr.arm⟩, by simp; omega⟩
  · refine ((ho1.trans ho3 fun b _ e => ?_).set (.inl hb.fr)).set (.inl hb.fr)
    exact (hb.l.fp _ (oP_block e)).1
  · exact hcl
  · show drainM (fun _ => true) 0 t.cache t.med n = _
    rw [drainM_lookF, keepL_all, hr.med, hr.cache, List.map_append, lookF_append]

end Am
end Go.Proofs.Ytfijmoofdafoiaa
