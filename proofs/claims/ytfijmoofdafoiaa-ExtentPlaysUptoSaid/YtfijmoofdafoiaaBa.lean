/-
  The reference's disk in the heap, and what its functions do to it.
-/
import Derived.Test.YtfijmoofdafoiaaAq
set_option linter.unusedSimpArgs false
set_option linter.unusedVariables false
set_option maxRecDepth 100000
namespace Go.Proofs.Ytfijmoofdafoiaa
open Go Go.RowKit
namespace Am

variable {T T' : Nat → Prop} {h h' h'' : Hp} {F F' : Nat → Prop} {s s' : DSt} {K : Value → Hp → Prop}

/-! ### Records -/

structure RRec where
  sec : Nat
  data : List UInt8
  g : Nat
  cap : Nat

def oP (P : Option Nat) : Option Addr := P.map (Addr.mk · 0 none)
def recV (e : RRec) : List Value := [.int .i64 (e.sec : Int), .int .i64 0, .slice (some ⟨e.g, 0, none⟩) 128 e.cap]
def RRec.pr (e : RRec) : Nat × List UInt8 := (e.sec, e.data)

theorem recV_one (e : RRec) : ∀ v ∈ recV e, v.oneCell' = true := by intro v hv; simp [recV] at hv; rcases hv with rfl | rfl | rfl <;> rfl
theorem recsV_length (l : List RRec) : (l.flatMap recV).length = l.length * 3 := by
  induction l with
  | nil => rfl
  | cons e r ih => rw [List.flatMap_cons, List.length_append, ih]; simp [recV]; omega
theorem recsV_one (l : List RRec) : ∀ v ∈ l.flatMap recV, v.oneCell' = true := by
  intro v hv
  obtain ⟨e, -, he⟩ := List.mem_flatMap.1 hv
  exact recV_one e v he

def DataAt (h : Hp) (e : RRec) : Prop := ∃ cs, Blk h e.g cs ∧ At cs 0 (byV e.data)

theorem DataAt.only {e : RRec} (hd : DataAt h e) (ho : Only T h h') (hn : ¬ T e.g) : DataAt h' e := by obtain ⟨cs, hb, ha⟩ := hd; exact ⟨cs, hb.only ho hn, ha⟩
theorem DataAt.lt {e : RRec} (hd : DataAt h e) : e.g < h.size := by obtain ⟨cs, hb, ha⟩ := hd; exact hb.lt

structure RecsAt (h : Hp) (F : Nat → Prop) (r : Nat) (P : Option Nat) (pc : Nat) (l : List RRec) : Prop where
  fp : ∀ b, P = some b → F b ∧ b ≠ r
  buf : Buf h 3 (oP P) l.length pc (l.flatMap recV)
  dat : ∀ e ∈ l, F e.g ∧ e.g ≠ r ∧ P ≠ some e.g ∧ DataAt h e ∧ e.sec < 1024 ∧ e.data.length = 128

variable {r : Nat} {P Q : Option Nat} {pc qc : Nat} {l ld wt : List RRec}

theorem off_oP {P : Option Nat} (hn : ∀ b, P = some b → ¬ T b) : Off (oP P) T := off_map hn
theorem oP_block {P : Option Nat} {b : Nat} (he : oP P = some (⟨b, 0, none⟩ : Addr)) : P = some b := by
  cases P with
  | none => cases he
  | some b' => simp [oP] at he; rw [he]
theorem oP_new {P : Option Nat} {p' : Option Addr} {n : Nat} (hp : p' = oP P ∨ ∃ b, p' = some (⟨b, 0, none⟩ : Addr) ∧ n ≤ b) : ∃ P', p' = oP P' ∧ (P' = P ∨ ∃ b, P' = some b ∧ n ≤ b) := by
  rcases hp with rfl | ⟨b, rfl, hb⟩
  · exact ⟨P, rfl, .inl rfl⟩
  · exact ⟨some b, rfl, .inr ⟨b, rfl, hb⟩⟩

theorem RecsAt.lt (hr : RecsAt h F r P pc l) {b : Nat} (hb : P = some b) : b < h.size := by have := hr.buf; subst hb; exact Buf.lt this
theorem RecsAt.only (hr : RecsAt h F r P pc l) (ho : Only T h h') (hp : ∀ b, P = some b → ¬ T b) (hg : ∀ e ∈ l, ¬ T e.g) : RecsAt h' F r P pc l :=
  ⟨hr.fp, hr.buf.only ho (off_oP hp), fun e he => by obtain ⟨a, b, c, d, f⟩ := hr.dat e he; exact ⟨a, b, c, d.only ho (hg e he), f⟩⟩
theorem RecsAt.mono (hr : RecsAt h F r P pc l) (hF : ∀ b, b < h.size → F b → F' b) : RecsAt h F' r P pc l :=
  ⟨fun b hb => ⟨hF b (hr.lt hb) (hr.fp b hb).1, (hr.fp b hb).2⟩, hr.buf, fun e he => by obtain ⟨a, b, c, d, f⟩ := hr.dat e he; exact ⟨hF _ d.lt a, b, c, d, f⟩⟩
theorem RecsAt.nil (h : Hp) (F : Nat → Prop) (r : Nat) : RecsAt h F r none 0 [] := ⟨fun b hb => (by cases hb), Buf.nil _ _, fun e he => (List.not_mem_nil he).elim⟩

theorem recs_row {P : Option Nat} (hb : Buf h 3 (oP P) l.length pc (l.flatMap recV)) {i : Nat} {e : RRec} (hi : l[i]? = some e) : ∃ b cs, P = some b ∧ Blk h b cs ∧ At cs (i * 3) (recV e) := by
  cases P with
  | none => have := hb.2.1; rw [List.length_eq_zero_iff] at this; rw [this] at hi; simp at hi
  | some b =>
    obtain ⟨b', cs, he, hbc, hcs, ha, -⟩ := hb
    cases he
    refine ⟨_, cs, rfl, hbc, ?_⟩
    have := At.flat (f := recV) (n := 3) (l := l) (o := 0) (fun e he => rfl) ha hi
    simpa using this

/-! ### The disk -/

structure RBox (h : Hp) (F : Nat → Prop) (r : Nat) (P : Option Nat) (pc : Nat) (Q : Option Nat) (qc : Nat) (ld wt : List RRec) (a : Int) (dn : Bool) (ct : Int) : Prop where
  blk : Blk h r #[.slice (oP P) ld.length pc, .slice (oP Q) wt.length qc, .int .i64 a, .bool dn, .int .i64 ct]
  fr : F r
  l : RecsAt h F r P pc ld
  w : RecsAt h F r Q qc wt
  sep : ∀ b, P = some b → Q ≠ some b
  xl : ∀ e ∈ ld, Q ≠ some e.g
  xw : ∀ e ∈ wt, P ≠ some e.g

variable {a a' : Int} {dn dn' : Bool} {ct ct' : Int}

theorem RBox.only (hb : RBox h F r P pc Q qc ld wt a dn ct) (ho : Only T h h') (hn : ∀ b, F b → ¬ T b) : RBox h' F r P pc Q qc ld wt a dn ct :=
  ⟨hb.blk.only ho (hn _ hb.fr), hb.fr, hb.l.only ho (fun b e => hn b (hb.l.fp b e).1) (fun e he => hn _ (hb.l.dat e he).1), hb.w.only ho (fun b e => hn b (hb.w.fp b e).1) (fun e he => hn _ (hb.w.dat e he).1), hb.sep, hb.xl, hb.xw⟩
theorem RBox.mono (hb : RBox h F r P pc Q qc ld wt a dn ct) (hF : ∀ b, b < h.size → F b → F' b) : RBox h F' r P pc Q qc ld wt a dn ct :=
  ⟨hb.blk, hF _ hb.blk.lt hb.fr, hb.l.mono hF, hb.w.mono hF, hb.sep, hb.xl, hb.xw⟩

theorem RecsAt.setR (hr : RecsAt h F r P pc l) (cs : Array Value) : RecsAt (setB h r cs) F r P pc l :=
  hr.only (T := fun b => b = r) ((Only.refl _ _).set (.inl rfl)) (fun b hb e => (hr.fp b hb).2 e) (fun e he k => (hr.dat e he).2.1 k)

theorem RBox.setA (hb : RBox h F r P pc Q qc ld wt a dn ct) (a' : Int) : RBox (setB h r (splice #[.slice (oP P) ld.length pc, .slice (oP Q) wt.length qc, .int .i64 a, .bool dn, .int .i64 ct] 2 #[.int .i64 a'])) F r P pc Q qc ld wt a' dn ct :=
  ⟨hb.blk.setB, hb.fr, hb.l.setR _, hb.w.setR _, hb.sep, hb.xl, hb.xw⟩
theorem RBox.setD (hb : RBox h F r P pc Q qc ld wt a dn ct) (dn' : Bool) : RBox (setB h r (splice #[.slice (oP P) ld.length pc, .slice (oP Q) wt.length qc, .int .i64 a, .bool dn, .int .i64 ct] 3 #[.bool dn'])) F r P pc Q qc ld wt a dn' ct :=
  ⟨hb.blk.setB, hb.fr, hb.l.setR _, hb.w.setR _, hb.sep, hb.xl, hb.xw⟩
theorem RBox.setC (hb : RBox h F r P pc Q qc ld wt a dn ct) (ct' : Int) : RBox (setB h r (splice #[.slice (oP P) ld.length pc, .slice (oP Q) wt.length qc, .int .i64 a, .bool dn, .int .i64 ct] 4 #[.int .i64 ct'])) F r P pc Q qc ld wt a dn ct' :=
  ⟨hb.blk.setB, hb.fr, hb.l.setR _, hb.w.setR _, hb.sep, hb.xl, hb.xw⟩
/-- Nothing waits any more. -/
theorem RBox.clearW (hb : RBox h F r P pc Q qc ld wt a dn ct) : RBox (setB h r (splice #[.slice (oP P) ld.length pc, .slice (oP Q) wt.length qc, .int .i64 a, .bool dn, .int .i64 ct] 1 #[.slice none 0 0])) F r P pc none 0 ld [] a dn ct :=
  ⟨hb.blk.setB, hb.fr, hb.l.setR _, RecsAt.nil _ _ _, fun b _ e => (by cases e), fun e _ k => (by cases k), fun e he => (List.not_mem_nil he).elim⟩

/-- Behind a step: the blocks that it owned, and new ones. -/
def Gr (F : Nat → Prop) (h : Hp) : Nat → Prop := fun b => F b ∨ h.size ≤ b

theorem Gr.in {b : Nat} (hb : F b) : Gr F h b := .inl hb

/-- What landed is a longer list now. -/
theorem RBox.setL (hb : RBox h F r P pc Q qc ld wt a dn ct) {h1 : Hp} {P' : Option Nat} {pc' : Nat} {ld' : List RRec} (ho : Only (fun b => oP P = some ⟨b, 0, none⟩) h h1) (hbuf : Buf h1 3 (oP P') ld'.length pc' (ld'.flatMap recV))
    (hP : P' = P ∨ ∃ b, P' = some b ∧ h.size ≤ b) (hd : ∀ e ∈ ld', e ∈ ld ∨ e ∈ wt) :
    RBox (setB h1 r (splice #[.slice (oP P) ld.length pc, .slice (oP Q) wt.length qc, .int .i64 a, .bool dn, .int .i64 ct] 0 #[.slice (oP P') ld'.length pc'])) (Gr F h) r P' pc' Q qc ld' wt a dn ct := by
  have hlt := hb.blk.lt
  have hnr : ¬ (oP P = some (⟨r, 0, none⟩ : Addr)) := fun e => (hb.l.fp r (oP_block e)).2 rfl
  have hnQ : ∀ b, Q = some b → ¬ (oP P = some (⟨b, 0, none⟩ : Addr)) := fun b e k => hb.sep b (oP_block k) e
  have hw1 : RecsAt h1 (Gr F h) r Q qc wt := (hb.w.mono (F' := Gr F h) fun b _ hx => .inl hx).only ho hnQ fun e he k => hb.xw e he (oP_block k)
  have hblk := (hb.blk.only ho hnr).setB (cs' := splice #[.slice (oP P) ld.length pc, .slice (oP Q) wt.length qc, .int .i64 a, .bool dn, .int .i64 ct] 0 #[.slice (oP P') ld'.length pc'])
  have hold : ∀ e ∈ ld', F e.g ∧ e.g ≠ r ∧ P ≠ some e.g ∧ Q ≠ some e.g ∧ DataAt h e ∧ e.sec < 1024 ∧ e.data.length = 128 := by
    intro e he
    rcases hd e he with k | k
    · obtain ⟨x1, x2, x3, x4, x5⟩ := hb.l.dat e k; exact ⟨x1, x2, x3, hb.xl e k, x4, x5⟩
    · obtain ⟨x1, x2, x3, x4, x5⟩ := hb.w.dat e k; exact ⟨x1, x2, hb.xw e k, x3, x4, x5⟩
  have hP' : ∀ e ∈ ld', P' ≠ some e.g := by
    intro e he k
    obtain ⟨x1, x2, x3, x4, x5, -⟩ := hold e he
    rcases hP with rfl | ⟨b, rfl, hb'⟩
    · exact x3 k
    · cases k; have := x5.lt; omega
  have hl1 : RecsAt h1 (Gr F h) r P' pc' ld' := by
    refine ⟨fun b e => ?_, hbuf, fun e he => ?_⟩
    · rcases hP with rfl | ⟨b', rfl, hb'⟩
      · exact ⟨.inl (hb.l.fp b e).1, (hb.l.fp b e).2⟩
      · cases e; exact ⟨.inr hb', by omega⟩
    · obtain ⟨x1, x2, x3, x4, x5, x6⟩ := hold e he
      exact ⟨.inl x1, x2, hP' e he, x5.only ho fun k => x3 (oP_block k), x6⟩
  refine ⟨hblk, .inl hb.fr, hl1.setR _, hw1.setR _, fun b e k => ?_, fun e he => (hold e he).2.2.2.1, fun e he k => ?_⟩
  · rcases hP with rfl | ⟨b', rfl, hb'⟩
    · exact hb.sep b e k
    · cases e; have := hb.w.lt k; omega
  · rcases hP with rfl | ⟨b', rfl, hb'⟩
    · exact hb.xw e he k
    · cases k; have := (hb.w.dat e he).2.2.2.1.lt; omega

/-- One more waits. -/
theorem RBox.setW (hb : RBox h F r P pc Q qc ld wt a dn ct) {h1 : Hp} {Q' : Option Nat} {qc' : Nat} {x : RRec} (ho : Only (fun b => oP Q = some ⟨b, 0, none⟩) h h1) (hbuf : Buf h1 3 (oP Q') (wt ++ [x]).length qc' ((wt ++ [x]).flatMap recV))
    (hQ : Q' = Q ∨ ∃ b, Q' = some b ∧ h.size ≤ b) (hx : h.size ≤ x.g ∧ Q' ≠ some x.g ∧ DataAt h1 x ∧ x.sec < 1024 ∧ x.data.length = 128) :
    RBox (setB h1 r (splice #[.slice (oP P) ld.length pc, .slice (oP Q) wt.length qc, .int .i64 a, .bool dn, .int .i64 ct] 1 #[.slice (oP Q') (wt ++ [x]).length qc'])) (Gr F h) r P pc Q' qc' ld (wt ++ [x]) a dn ct := by
  have hlt := hb.blk.lt
  have hnr : ¬ (oP Q = some (⟨r, 0, none⟩ : Addr)) := fun e => (hb.w.fp r (oP_block e)).2 rfl
  have hnP : ∀ b, P = some b → ¬ (oP Q = some (⟨b, 0, none⟩ : Addr)) := fun b e k => hb.sep b e (oP_block k)
  have hl1 : RecsAt h1 (Gr F h) r P pc ld := (hb.l.mono (F' := Gr F h) fun b _ hx => .inl hx).only ho hnP fun e he k => hb.xl e he (oP_block k)
  have hblk := (hb.blk.only ho hnr).setB (cs' := splice #[.slice (oP P) ld.length pc, .slice (oP Q) wt.length qc, .int .i64 a, .bool dn, .int .i64 ct] 1 #[.slice (oP Q') (wt ++ [x]).length qc'])
  have hw1 : RecsAt h1 (Gr F h) r Q' qc' (wt ++ [x]) := by
    refine ⟨fun b e => ?_, hbuf, fun e he => ?_⟩
    · rcases hQ with rfl | ⟨b', rfl, hb'⟩
      · exact ⟨.inl (hb.w.fp b e).1, (hb.w.fp b e).2⟩
      · cases e; exact ⟨.inr hb', by omega⟩
    · rcases List.mem_append.1 he with he | he
      · obtain ⟨x1, x2, x3, x4, x5⟩ := hb.w.dat e he
        refine ⟨.inl x1, x2, fun k => ?_, x4.only ho fun k => x3 (oP_block k), x5⟩
        rcases hQ with rfl | ⟨b', rfl, hb'⟩
        · exact x3 k
        · cases k; have := x4.lt; omega
      · cases List.mem_singleton.1 he
        exact ⟨.inr hx.1, by omega, hx.2.1, hx.2.2⟩
  refine ⟨hblk, .inl hb.fr, hl1.setR _, hw1.setR _, fun b e k => ?_, fun e he k => ?_, fun e he k => ?_⟩
  · rcases hQ with rfl | ⟨b', rfl, hb'⟩
    · exact hb.sep b e k
    · cases k; have := hb.l.lt e; omega
  · rcases hQ with rfl | ⟨b', rfl, hb'⟩
    · exact hb.xl e he k
    · cases k; have := (hb.l.dat e he).2.2.2.1.lt; omega
  · rcases List.mem_append.1 he with he | he
    · exact hb.xw e he k
    · cases List.mem_singleton.1 he
      have := hb.l.lt k; omega

/-- What its lists mean. -/
structure RelD (ld wt : List RRec) (s : DSt) : Prop where
  cache : s.cache = wt.map RRec.pr
  med : ∀ n, s.med n = lookF (List.replicate 128 0) (ld.map RRec.pr) n
  arm : s.armed = true → 0 ≤ s.left ∧ s.left ≤ 9223372036854775807

def armI (s : DSt) : Int := if s.armed then s.left else -1

/-- The reference's disk, and that it is the disk s; m: no more than so many records. -/
def RDiskAt (h : Hp) (F : Nat → Prop) (r : Nat) (m : Nat) (s : DSt) : Prop :=
  ∃ P pc Q qc ld wt, RBox h F r P pc Q qc ld wt (armI s) s.down s.acts ∧ RelD ld wt s ∧ ld.length + wt.length ≤ m

theorem RDiskAt.only {m : Nat} (hd : RDiskAt h F r m s) (ho : Only T h h') (hn : ∀ b, F b → ¬ T b) : RDiskAt h' F r m s := by
  obtain ⟨P, pc, Q, qc, ld, wt, hb, hr, hm⟩ := hd; exact ⟨P, pc, Q, qc, ld, wt, hb.only ho hn, hr, hm⟩
theorem RDiskAt.mono {m : Nat} (hd : RDiskAt h F r m s) (hF : ∀ b, b < h.size → F b → F' b) : RDiskAt h F' r m s := by
  obtain ⟨P, pc, Q, qc, ld, wt, hb, hr, hm⟩ := hd; exact ⟨P, pc, Q, qc, ld, wt, hb.mono hF, hr, hm⟩
theorem RDiskAt.more {m m' : Nat} (hd : RDiskAt h F r m s) (hm' : m ≤ m') : RDiskAt h F r m' s := by
  obtain ⟨P, pc, Q, qc, ld, wt, hb, hr, hm⟩ := hd; exact ⟨P, pc, Q, qc, ld, wt, hb, hr, by omega⟩
theorem RDiskAt.grow {m : Nat} (hd : RDiskAt h F r m s) : RDiskAt h (Gr F h') r m s := hd.mono fun b _ hb => .inl hb
theorem RDiskAt.lt {m : Nat} (hd : RDiskAt h F r m s) : F r ∧ r < h.size := by
  obtain ⟨P, pc, Q, qc, ld, wt, hb, hr, hm⟩ := hd; exact ⟨hb.fr, hb.blk.lt⟩
theorem RDiskAt.left {m : Nat} (hd : RDiskAt h F r m s) : s.armed = true → 0 ≤ s.left ∧ s.left ≤ 9223372036854775807 := by
  obtain ⟨P, pc, Q, qc, ld, wt, hb, hr, hm⟩ := hd; exact hr.arm

/-! ### Its functions -/

theorem z98' : (zeroOf tc.P 98).toList = [.slice none 0 0, .slice none 0 0, .int .i64 0, .bool false, .int .i64 0] := z98

theorem rnew_spec (k : ∀ h', Only (fun _ => False) h h' → RDiskAt h' (fun b => h.size ≤ b) h.size 0 DSt.init → h'.size = h.size + 1 → K (.pointer (some ⟨h.size, 0, none⟩)) h') : Run tc.P 28 #[] h K := by
  apply L28_run; unfold L28
  have hf : fillL (zeroOf tc.P 98).toList [(2, 1, (.int .i64 (-1)))] = some [.slice none 0 0, .slice none 0 0, .int .i64 (-1), .bool false, .int .i64 0] := by rw [z98]; rfl
  rw [hf]
  simp only [onO]
  refine k _ ((Only.refl _ _).push _) ⟨none, 0, none, 0, [], [], ⟨Blk.new _ _ _, Nat.le_refl _, RecsAt.nil _ _ _, RecsAt.nil _ _ _, fun b e => (by cases e), fun e he => (List.not_mem_nil he).elim, fun e he => (List.not_mem_nil he).elim⟩, ⟨rfl, fun n => rfl, fun e => (by cases e)⟩, Nat.le_refl _⟩ (by simp)

theorem rthere_spec {n : Int} (k : K (.bool (decide (0 ≤ n ∧ n < 1024))) h) : Run tc.P 71 #[.int .i64 n] h K := by
  apply L71_run; unfold L71
  refine bsel_dec (fun h0 => ?_) fun h0 => ?_
  · rwa [show (decide (0 ≤ n ∧ n < 1024)) = decide (n < 1024) from by simp [h0]] at k
  · rwa [show (decide (0 ≤ n ∧ n < 1024)) = false from by simp [h0]] at k

theorem racts_spec {m : Nat} (hd : RDiskAt h F r m s) (k : K (.int .i64 s.acts) h) : Run tc.P 52 #[.pointer (some ⟨r, 0, none⟩)] h K := by
  apply L52_run; unfold L52; simp only [onPtr, add_mk, Nat.zero_add]
  obtain ⟨P, pc, Q, qc, ld, wt, hb, hr, hm⟩ := hd
  exact ldI_at hb.blk rfl k

theorem rarm_spec {n : Int} {m : Nat} (hn : n ≤ 9223372036854775807) (hd : RDiskAt h F r m s) (k : ∀ h', Only F h h' → RDiskAt h' F r m (s.arm n).2 → K (.int .i64 (s.arm n).1) h') : Run tc.P 47 #[.pointer (some ⟨r, 0, none⟩), .int .i64 n] h K := by
  apply L47_run; unfold L47; simp only [onPtr, add_mk, Nat.zero_add]
  refine bsel_dec (fun h0 => ?_) fun h0 => ?_
  · have e : s.arm n = (1, s) := by simp [DSt.arm, h0]
    rw [e] at k; exact k h (Only.refl _ _) hd
  obtain ⟨P, pc, Q, qc, ld, wt, hb, hr, hm⟩ := hd
  refine ldB_at hb.blk rfl (bsel_b (fun h1 => ?_) fun h1 => ?_)
  · have e : s.arm n = (42, s) := by simp [DSt.arm, h0, h1]
    rw [e] at k; exact k h (Only.refl _ _) ⟨P, pc, Q, qc, ld, wt, hb, hr, hm⟩
  · have e : s.arm n = (0, { s with armed := true, left := n }) := by simp [DSt.arm, h0, h1]
    rw [e] at k
    exact st_at hb.blk (by simp) (one_ok _ rfl) (k _ ((Only.refl _ _).set (.inl hb.fr)) ⟨P, pc, Q, qc, ld, wt, hb.setA n, ⟨hr.cache, hr.med, fun _ => ⟨show 0 ≤ n by omega, hn⟩⟩, hm⟩)

theorem ract_spec {m : Nat} (hd : RDiskAt h F r m s) (k : ∀ h', Only F h h' → RDiskAt h' F r m s.act.2 → K (.bool s.act.1) h') : Run tc.P 75 #[.pointer (some ⟨r, 0, none⟩)] h K := by
  apply L75_run; unfold L75; simp only [onPtr, add_mk, Nat.zero_add]
  obtain ⟨P, pc, Q, qc, ld, wt, hb, hr, hm⟩ := hd
  refine ldB_at hb.blk rfl (bsel_b (fun h0 => ?_) fun h0 => ?_)
  · have e : s.act = (false, s) := by simp [DSt.act, h0]
    rw [e] at k; exact k h (Only.refl _ _) ⟨P, pc, Q, qc, ld, wt, hb, hr, hm⟩
  refine ldI_at hb.blk rfl (bsel_dec (fun h1 => ?_) fun h1 => ?_)
  · have ha : s.armed = true ∧ s.left = 0 := by
      unfold armI at h1; split at h1
      · rename_i e; exact ⟨e, h1⟩
      · omega
    have e : s.act = (false, { s with down := true }) := by simp [DSt.act, h0, ha.1, ha.2]
    rw [e] at k
    exact st_at hb.blk (by simp) (one_ok _ rfl) (k _ ((Only.refl _ _).set (.inl hb.fr)) ⟨P, pc, Q, qc, ld, wt, hb.setD true, ⟨hr.cache, hr.med, hr.arm⟩, hm⟩)
  refine ldI_at hb.blk rfl (bsel_dec (fun h2 => ?_) fun h2 => ?_)
  · have ha : s.armed = true := by
      unfold armI at h2; split at h2
      · assumption
      · omega
    have hai : armI s = s.left := by simp [armI, ha]
    rw [hai] at h1 h2
    have hle := hr.arm ha
    have e : s.act = (true, { s with left := IntKind.i64.wrap (s.left - 1), acts := IntKind.i64.wrap (s.acts + 1) }) := by simp [DSt.act, h0, ha, h1]
    rw [e] at k
    have hb1 := hb.setA (IntKind.i64.wrap (s.left - 1))
    have hb2 := hb1.setC (IntKind.i64.wrap (s.acts + 1))
    refine ldI_at hb.blk rfl (st_at hb.blk (by simp) (one_ok _ rfl) ?_)
    rw [hai] at hb1 hb2 ⊢
    refine ldI_at hb1.blk rfl (st_at hb1.blk (by simp) (one_ok _ rfl) ?_)
    refine k _ (((Only.refl _ _).set (.inl hb.fr)).set (.inl hb.fr)) ⟨P, pc, Q, qc, ld, wt, ?_, ⟨hr.cache, hr.med, fun _ => ?_⟩, hm⟩
    · have : armI ({ s with left := IntKind.i64.wrap (s.left - 1), acts := IntKind.i64.wrap (s.acts + 1) } : DSt) = IntKind.i64.wrap (s.left - 1) := by simp [armI, ha]
      rw [this]; exact hb2
    · show 0 ≤ IntKind.i64.wrap (s.left - 1) ∧ IntKind.i64.wrap (s.left - 1) ≤ _
      rw [w64 (by omega) (by omega)]; omega
  · have ha : s.armed = false := by
      cases ha : s.armed with
      | false => rfl
      | true => have := hr.arm ha; simp [armI, ha] at h1 h2; omega
    have e : s.act = (true, { s with acts := IntKind.i64.wrap (s.acts + 1) }) := by simp [DSt.act, h0, ha]
    rw [e] at k
    refine ldI_at hb.blk rfl (st_at hb.blk (by simp) (one_ok _ rfl) ?_)
    refine k _ ((Only.refl _ _).set (.inl hb.fr)) ⟨P, pc, Q, qc, ld, wt, hb.setC _, ⟨hr.cache, hr.med, hr.arm⟩, hm⟩

/-! ### What is played -/

theorem lookF_length' {n : Nat} : ∀ (l : List (Nat × List UInt8)) (m : List UInt8), m.length = 128 → (∀ e ∈ l, e.2.length = 128) → (lookF m l n).length = 128 := by
  intro l
  induction l with
  | nil => intro m hm _; exact hm
  | cons e r ih =>
    intro m hm he
    refine ih _ ?_ fun e' h' => he e' (List.mem_cons_of_mem _ h')
    show (if e.1 = n then e.2 else m).length = 128
    split
    · exact he e (List.mem_cons_self ..)
    · exact hm

theorem byV_splice {xs : List UInt8} {J : Nat} (hJ : J < xs.length) (b : UInt8) : splice (byV xs).toArray J #[byteV b] = (byV (xs.set J b)).toArray := by
  have hs : J + (#[byteV b] : Array Value).size ≤ ((byV xs).toArray).size := by simp [byV]; omega
  apply Array.ext_getElem?
  intro i
  rw [splice_get hs]
  by_cases hi : i = J
  · subst hi; rw [if_pos (by simp)]; simp [byV, hJ]
  · rw [if_neg (by simp; omega)]; simp [byV, List.getElem?_set, Ne.symm hi]

theorem lay_step {xs ys : List UInt8} {J : Nat} (hJ : J < xs.length) (hl : xs.length = ys.length) : (xs.take J ++ ys.drop J).set J (xs[J]'hJ) = xs.take (J + 1) ++ ys.drop (J + 1) := by
  have ht : (xs.take J).length = J := by rw [List.length_take]; omega
  rw [List.set_append_right _ _ (by omega), ht, Nat.sub_self, List.take_add_one, List.getElem?_eq_getElem hJ, List.append_assoc]
  congr 1
  rw [List.drop_eq_getElem_cons (show J < ys.length by omega)]
  rfl

theorem lookF_take {l : List RRec} {bs : List UInt8} {I n : Nat} {e : RRec} (hI : l[I]? = some e) : lookF bs ((l.take (I + 1)).map RRec.pr) n = if e.sec = n then e.data else lookF bs ((l.take I).map RRec.pr) n := by
  unfold lookF
  rw [List.take_add_one, hI, List.map_append, List.foldl_append]
  rfl

theorem rplay_spec {g c n : Nat} {bs : List UInt8} (hb : Blk h g (byV bs).toArray) (hbl : bs.length = 128) (hl : Buf h 3 (oP P) l.length pc (l.flatMap recV)) (hP : P ≠ some g)
    (hd : ∀ e ∈ l, e.g ≠ g ∧ DataAt h e ∧ e.data.length = 128) (hll : l.length ≤ 100000000)
    (k : ∀ h', Only (fun b => b = g) h h' → Blk h' g (byV (lookF bs (l.map RRec.pr) n)).toArray → K (.tuple #[]) h') :
    Run tc.P 72 #[.slice (some ⟨g, 0, none⟩) 128 c, .slice (oP P) l.length pc, .int .i64 (n : Int)] h K := by
  apply L72_run; unfold L72
  refine ⟨fun st h' => ∃ I : Nat, st.1 = (I : Int) ∧ I ≤ l.length ∧ Only (fun b => b = g) h h' ∧ Blk h' g (byV (lookF bs ((l.take I).map RRec.pr) n)).toArray, fun st _ => ((l.length : Int) - st.1).toNat, ⟨0, rfl, Nat.zero_le _, Only.refl _ _, hb⟩, ?_⟩
  rintro ⟨i, ⟨⟩⟩ h' ⟨I, hi, hI, ho, hbk⟩
  simp only at hi ⊢
  subst hi
  refine bsel_dec (fun h0 => ?_) fun h0 => ?_
  · have hI2 : I < l.length := by omega
    have hIe : l[I]? = some (l[I]'hI2) := List.getElem?_eq_getElem hI2
    have hmem := List.getElem_mem hI2
    generalize l[I]'hI2 = e at *
    obtain ⟨hg, hda, hdl⟩ := hd e hmem
    have hbuf1 : ∀ h'', Only (fun b => b = g) h h'' → Buf h'' 3 (oP P) l.length pc (l.flatMap recV) := fun h'' ho'' => hl.only ho'' (off_oP fun b hb e => hP (e ▸ hb))
    obtain ⟨b, cs, hPb, hblk, hat⟩ := recs_row (hbuf1 _ ho) hIe
    have hcur : (lookF bs ((l.take I).map RRec.pr) n).length = 128 := by
      refine lookF_length' _ _ hbl fun e' he' => ?_
      obtain ⟨x, hx, rfl⟩ := List.mem_map.1 he'
      exact (hd x (List.mem_of_mem_take hx)).2.2
    have hlk := lookF_take (bs := bs) (n := n) hIe
    refine ⟨⟨by omega, h0⟩, ?_⟩
    rw [hPb]
    simp only [oP, Option.map_some, onO, add_mk, Nat.zero_add, Nat.add_zero, Int.toNat_natCast]
    refine ldI_at hblk (hat 0 _ rfl) (bsel_ndec (fun h1 => ?_) fun h1 => ?_)
    · refine ⟨⟨I + 1, ?_, hI2, ho, ?_⟩, ?_⟩
      · rw [w64 (by omega) (by omega)]; rfl
      · rw [hlk, if_neg (by omega)]; exact hbk
      · rw [w64 (by omega) (by omega)]; omega
    · generalize lookF bs ((l.take I).map RRec.pr) n = cur at *
      rw [if_pos (by omega)] at hlk
      refine ⟨fun st h'' => ∃ J : Nat, st.1 = (J : Int) ∧ J ≤ 128 ∧ Only (fun b => b = g) h h'' ∧ Blk h'' g (byV (e.data.take J ++ cur.drop J)).toArray, fun st _ => (128 - st.1).toNat, ⟨0, rfl, by decide, ho, by simpa using hbk⟩, ?_⟩
      rintro ⟨j, ⟨⟩⟩ h2 ⟨J, hj, hJ, ho2, hbk2⟩
      simp only at hj ⊢
      subst hj
      obtain ⟨b2, cs2, hPb2, hblk2, hat2⟩ := recs_row (hbuf1 _ ho2) hIe
      rw [hPb] at hPb2; cases hPb2
      refine ⟨⟨by omega, h0⟩, ldS_at hblk2 (hat2 2 _ rfl) (bsel_dec (fun h2' => ?_) fun h2' => ?_)⟩
      · have hJ2 : J < e.data.length := by omega
        refine ⟨⟨by omega, h0⟩, ⟨by omega, h0⟩, ldI_at hblk2 (hat2 1 _ rfl) (ldS_at hblk2 (hat2 2 _ rfl) ⟨⟨by omega, h2'⟩, ?_⟩)⟩
        obtain ⟨cd, hbd, had⟩ := hda.only ho2 hg
        simp only [Nat.mul_one, Int.toNat_natCast, add_mk]
        refine ldI_at hbd (m := ((e.data[J]'hJ2).toNat : Int)) ?_ ?_
        · exact had J (byteV (e.data[J]'hJ2)) (by simp [byV, hJ2])
        rw [Int.zero_add, w64 (n := (J : Int)) (by omega) (by omega)]
        refine ⟨⟨by omega, by omega⟩, ?_⟩
        simp only [Int.toNat_natCast]
        have hsz : (e.data.take J ++ cur.drop J).length = 128 := by rw [List.length_append, List.length_take, List.length_drop]; omega
        refine st_at hbk2 (by simp only [List.size_toArray, byV_length, hsz, List.size_toArray]; show J + 1 ≤ 128; omega) (one_ok _ rfl) ?_
        have hsp := byV_splice (xs := e.data.take J ++ cur.drop J) (J := J) (by omega) (e.data[J]'hJ2)
        rw [lay_step hJ2 (by omega)] at hsp
        refine ⟨⟨J + 1, ?_, by omega, ho2.set (.inl rfl), ?_⟩, ?_⟩
        · rw [w64 (by omega) (by omega)]; rfl
        · rw [← hsp]; exact hbk2.setB
        · rw [w64 (by omega) (by omega)]; omega
      · have hJ3 : J = 128 := by omega
        subst hJ3
        refine ⟨⟨I + 1, ?_, hI2, ho2, ?_⟩, ?_⟩
        · rw [w64 (by omega) (by omega)]; rfl
        · rw [hlk]
          rw [List.take_of_length_le (by omega), List.drop_of_length_le (by omega), List.append_nil] at hbk2
          exact hbk2
        · rw [w64 (by omega) (by omega)]; omega
  · have : I = l.length := by omega
    subst this
    rw [List.take_length] at hbk
    exact k h' ho hbk

end Am
end Go.Proofs.Ytfijmoofdafoiaa
