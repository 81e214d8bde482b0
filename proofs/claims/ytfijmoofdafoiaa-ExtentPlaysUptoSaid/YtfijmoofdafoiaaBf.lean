/-
  ExtentPlays: what stands between two calls: two tables over one disk, and the reference's beside them.
-/
import Derived.Test.YtfijmoofdafoiaaBe
set_option linter.unusedSimpArgs false
set_option linter.unusedVariables false
set_option maxRecDepth 100000
namespace Go.Proofs.Ytfijmoofdafoiaa
open Go Go.RowKit
namespace Am

variable {T T' : Nat → Prop} {h h' h'' h0 : Hp} {s s' u u' : DSt} {f f' g g' : Nat → Option ExtS} {K : Value → Hp → Prop}
variable {lab : Nat → Nat} {d r m m' j : Nat} {B B' : Option Nat}

/-- Whose is a block? New ones are whose step made them. -/
def relab (h : Hp) (lab : Nat → Nat) (j : Nat) : Nat → Nat := fun b => if b < h.size then lab b else j

theorem relab_lt {b : Nat} (hb : b < h.size) : relab h lab j b = lab b := by unfold relab; rw [if_pos hb]
theorem relab_ge {b : Nat} (hb : h.size ≤ b) : relab h lab j b = j := by unfold relab; rw [if_neg (by omega)]

/-- A table, the reference's beside it, and their mark. -/
structure Sd where
  L : Am.Loc
  f : Nat → Option ExtS
  g : Nat → Option ExtS
  t : Nat
  i : Nat

structure XL (h : Hp) (lab : Nat → Nat) (d : Nat) (B : Option Nat) (s : DSt) (r m : Nat) (A : Sd) : Prop where
  x : XAt h A.L B A.f s
  hd : A.L.d = d
  lx : lab A.L.x = A.i
  lt : lab A.L.t = A.i
  lS : lab A.L.S = A.i
  rt : RTabAt h (fun b => lab b = A.i + 1) A.t r m A.g

variable {A C : Sd}

theorem RTabAt.away {t k : Nat} (hr : RTabAt h (fun b => lab b = k) t r m g) (ho : Only T h h') (hT : ∀ b, T b → lab b = j) (hk : k ≠ j) : RTabAt h' (fun b => relab h lab j b = k) t r m g :=
  (hr.mono (F' := fun b => relab h lab j b = k) fun b hb e => by show relab h lab j b = k; rw [relab_lt hb]; exact e).only ho fun b hb ht => by
    by_cases hbs : b < h.size
    · rw [relab_lt hbs, hT b ht] at hb; exact hk hb.symm
    · rw [relab_ge (by omega)] at hb; exact hk hb.symm
theorem RDiskAt.away {k : Nat} (hr : RDiskAt h (fun b => lab b = k) r m u) (ho : Only T h h') (hT : ∀ b, T b → lab b = j) (hk : k ≠ j) : RDiskAt h' (fun b => relab h lab j b = k) r m u :=
  (hr.mono (F' := fun b => relab h lab j b = k) fun b hb e => by show relab h lab j b = k; rw [relab_lt hb]; exact e).only ho fun b hb ht => by
    by_cases hbs : b < h.size
    · rw [relab_lt hbs, hT b ht] at hb; exact hk hb.symm
    · rw [relab_ge (by omega)] at hb; exact hk hb.symm
theorem gr_relab {b : Nat} (hb : Gr (fun b => lab b = j) h b) : relab h lab j b = j := by
  by_cases hbs : b < h.size
  · rw [relab_lt hbs]
    rcases hb with k | k
    · exact k
    · omega
  · exact relab_ge (by omega)

theorem XL.more (hX : XL h lab d B s r m A) (hm : m ≤ m') : XL h lab d B s r m' A := ⟨hX.x, hX.hd, hX.lx, hX.lt, hX.lS, hX.rt.more hm⟩

theorem XL.own (hX : XL h lab d B s r m A) (ld : lab d = 5) (lB : ∀ b, B = some b → lab b = 5) {b : Nat} (hb : xOwn A.L B b) : lab b = A.i ∨ lab b = 5 := by
  rcases hb with rfl | (rfl | rfl) | (rfl | hb)
  · exact .inl hX.lx
  · exact .inl hX.lt
  · exact .inl hX.lS
  · exact .inr (hX.hd ▸ ld)
  · exact .inr (lB b hb)

theorem XL.away (hX : XL h lab d B s r m A) (ld : lab d = 5) (lB : ∀ b, B = some b → lab b = 5) (ho : Only T h h') (hT : ∀ b, T b → lab b = j) (h1 : A.i ≠ j) (h2 : A.i + 1 ≠ j) (h5 : 5 ≠ j) : XL h' (relab h lab j) d B s r m A := by
  have hx := hX.x.lt (b := A.L.x) (.inl rfl)
  have ht := hX.x.lt (b := A.L.t) (.inr (.inl (.inl rfl)))
  have hS := hX.x.lt (b := A.L.S) (.inr (.inl (.inr rfl)))
  refine ⟨hX.x.only ho fun b hb ht => ?_, hX.hd, by rw [relab_lt hx]; exact hX.lx, by rw [relab_lt ht]; exact hX.lt, by rw [relab_lt hS]; exact hX.lS, hX.rt.away ho hT h2⟩
  have := hT b ht
  rcases hX.own ld lB hb with k | k <;> omega

/-- A step of the disk that the table stands over. -/
theorem XL.disk (hX : XL h lab d B s r m A) (ld : lab d = 5) (lB : ∀ b, B = some b → lab b = 5) (ho : Only (dOwn d B) h h') (hd : DiskAt h' d B' s') (hB : ∀ b, B' = some b → B = some b ∨ h.size ≤ b) (h2 : A.i + 1 ≠ 5) : XL h' (relab h lab 5) d B' s' r m A := by
  have hx := hX.x.lt (b := A.L.x) (.inl rfl)
  have ht := hX.x.lt (b := A.L.t) (.inr (.inl (.inl rfl)))
  have hS := hX.x.lt (b := A.L.S) (.inr (.inl (.inr rfl)))
  have hT : ∀ b, dOwn d B b → lab b = 5 := by
    rintro b (rfl | hb)
    · exact ld
    · exact lB b hb
  refine ⟨hX.x.diskStep (by rw [hX.hd]; exact ho) (by rw [hX.hd]; exact hd) hB, hX.hd, by rw [relab_lt hx]; exact hX.lx, by rw [relab_lt ht]; exact hX.lt, by rw [relab_lt hS]; exact hX.lS, hX.rt.away ho hT h2⟩

structure Duo (h0 h : Hp) (lab : Nat → Nat) (d : Nat) (B : Option Nat) (s u : DSt) (r m : Nat) (A C : Sd) : Prop where
  only : Only (fun _ => False) h0 h
  old : ∀ b, b < h0.size → lab b = 0
  a : XL h lab d B s r m A
  c : XL h lab d B s r m C
  ij : A.i = 1 ∧ C.i = 3 ∨ A.i = 3 ∧ C.i = 1
  ld : lab d = 5
  lB : ∀ b, B = some b → lab b = 5
  rd : RDiskAt h (fun b => lab b = 6) r m u
  clen : s.cache.length ≤ m

theorem Duo.swap (hD : Duo h0 h lab d B s u r m A C) : Duo h0 h lab d B s u r m C A :=
  ⟨hD.only, hD.old, hD.c, hD.a, hD.ij.symm.imp (fun k => ⟨k.2, k.1⟩) (fun k => ⟨k.2, k.1⟩), hD.ld, hD.lB, hD.rd, hD.clen⟩

theorem Duo.more (hD : Duo h0 h lab d B s u r m A C) (hm : m ≤ m') : Duo h0 h lab d B s u r m' A C :=
  ⟨hD.only, hD.old, hD.a.more hm, hD.c.more hm, hD.ij, hD.ld, hD.lB, hD.rd.more hm, by have := hD.clen; omega⟩

theorem Duo.ltd (hD : Duo h0 h lab d B s u r m A C) : d < h.size := by have := hD.a.x.lt (b := A.L.d) (.inr (.inr (.inl rfl))); rw [hD.a.hd] at this; exact this
theorem Duo.ltB (hD : Duo h0 h lab d B s u r m A C) {b : Nat} (hb : B = some b) : b < h.size := hD.a.x.lt (.inr (.inr (.inr hb)))

/-- What a marked step keeps. -/
theorem Duo.keep (hD : Duo h0 h lab d B s u r m A C) (ho : Only T h h') (hT : ∀ b, T b → lab b = j) (hj : j ≠ 0) : Only (fun _ => False) h0 h' ∧ (∀ b, b < h0.size → relab h lab j b = 0) ∧ relab h lab j d = 5 := by
  refine ⟨hD.only.trans ho fun b hb ht => ?_, fun b hb => ?_, ?_⟩
  · have := hT b ht; have := hD.old b hb; omega
  · rw [relab_lt (by have := hD.only.1; omega)]; exact hD.old b hb
  · rw [relab_lt hD.ltd]; exact hD.ld
theorem Duo.keepB (hD : Duo h0 h lab d B s u r m A C) (j : Nat) : ∀ b, B = some b → relab h lab j b = 5 := fun b hb => by rw [relab_lt (hD.ltB hb)]; exact hD.lB b hb

/-- A step of nobody's blocks. -/
theorem Duo.other (hD : Duo h0 h lab d B s u r m A C) (ho : Only T h h') (hT : ∀ b, T b → lab b = 7) : Duo h0 h' (relab h lab 7) d B s u r m A C := by
  obtain ⟨h1, h2, h3⟩ := hD.keep ho hT (by decide)
  have hij := hD.ij
  exact ⟨h1, h2, hD.a.away hD.ld hD.lB ho hT (by omega) (by omega) (by decide), hD.c.away hD.ld hD.lB ho hT (by omega) (by omega) (by decide), hD.ij, h3, hD.keepB 7, hD.rd.away ho hT (by decide), hD.clen⟩
theorem Duo.fresh (hD : Duo h0 h lab d B s u r m A C) (ho : Only (fun _ => False) h h') : Duo h0 h' (relab h lab 7) d B s u r m A C := hD.other ho fun _ k => k.elim

/-- A step of the first table. -/
theorem Duo.tab (hD : Duo h0 h lab d B s u r m A C) (ho : Only (tOwn A.L.t A.L.S) h h') (hx : XAt h' A.L B f' s) : Duo h0 h' (relab h lab A.i) d B s u r m { A with f := f' } C := by
  have hT : ∀ b, tOwn A.L.t A.L.S b → lab b = A.i := by
    rintro b (rfl | rfl)
    · exact hD.a.lt
    · exact hD.a.lS
  have hij := hD.ij
  obtain ⟨h1, h2, h3⟩ := hD.keep ho hT (by omega)
  have hlx := hD.a.x.lt (b := A.L.x) (.inl rfl)
  have hlt := hD.a.x.lt (b := A.L.t) (.inr (.inl (.inl rfl)))
  have hlS := hD.a.x.lt (b := A.L.S) (.inr (.inl (.inr rfl)))
  exact ⟨h1, h2, ⟨hx, hD.a.hd, by rw [relab_lt hlx]; exact hD.a.lx, by rw [relab_lt hlt]; exact hD.a.lt, by rw [relab_lt hlS]; exact hD.a.lS, hD.a.rt.away ho hT (by omega)⟩,
    hD.c.away hD.ld hD.lB ho hT (by omega) (by omega) (by omega), hD.ij, h3, hD.keepB _, hD.rd.away ho hT (by omega), hD.clen⟩

/-- A step of the disk. -/
theorem Duo.disk (hD : Duo h0 h lab d B s u r m A C) (ho : Only (dOwn d B) h h') (hd : DiskAt h' d B' s') (hB : ∀ b, B' = some b → B = some b ∨ h.size ≤ b) (hm : m ≤ m') (hc : s'.cache.length ≤ m') : Duo h0 h' (relab h lab 5) d B' s' u r m' A C := by
  have hT : ∀ b, dOwn d B b → lab b = 5 := by
    rintro b (rfl | hb)
    · exact hD.ld
    · exact hD.lB b hb
  have hij := hD.ij
  obtain ⟨h1, h2, h3⟩ := hD.keep ho hT (by decide)
  refine ⟨h1, h2, (hD.a.disk hD.ld hD.lB ho hd hB (by omega)).more hm, (hD.c.disk hD.ld hD.lB ho hd hB (by omega)).more hm, hD.ij, h3, fun b hb => ?_, (hD.rd.away ho hT (by decide)).more hm, hc⟩
  rcases hB b hb with k | k
  · exact hD.keepB 5 b k
  · exact relab_ge k

/-- A step of the reference's first table. -/
theorem Duo.rtab (hD : Duo h0 h lab d B s u r m A C) (ho : Only (fun b => lab b = A.i + 1) h h') (hr : RTabAt h' (Gr (fun b => lab b = A.i + 1) h) A.t r m' g') (hm : m ≤ m') : Duo h0 h' (relab h lab (A.i + 1)) d B s u r m' { A with g := g' } C := by
  have hij := hD.ij
  obtain ⟨h1, h2, h3⟩ := hD.keep ho (fun _ k => k) (by omega)
  have ha := hD.a.x.only ho fun b hb k => by
    have k' : lab b = A.i + 1 := k
    rcases hD.a.own hD.ld hD.lB hb with k | k <;> omega
  have hlx := hD.a.x.lt (b := A.L.x) (.inl rfl)
  have hlt := hD.a.x.lt (b := A.L.t) (.inr (.inl (.inl rfl)))
  have hlS := hD.a.x.lt (b := A.L.S) (.inr (.inl (.inr rfl)))
  exact ⟨h1, h2, ⟨ha, hD.a.hd, by rw [relab_lt hlx]; exact hD.a.lx, by rw [relab_lt hlt]; exact hD.a.lt, by rw [relab_lt hlS]; exact hD.a.lS, hr.mono fun b _ hb => gr_relab hb⟩,
    (hD.c.away hD.ld hD.lB ho (fun _ k => k) (by omega) (by omega) (by omega)).more hm, hD.ij, h3, hD.keepB _, (hD.rd.away ho (fun _ k => k) (by omega)).more hm, by have := hD.clen; omega⟩

/-- A step of the reference's disk. -/
theorem Duo.rdisk (hD : Duo h0 h lab d B s u r m A C) (ho : Only (fun b => lab b = 6) h h') (hr : RDiskAt h' (Gr (fun b => lab b = 6) h) r m' u') (hm : m ≤ m') : Duo h0 h' (relab h lab 6) d B s u' r m' A C := by
  have hij := hD.ij
  obtain ⟨h1, h2, h3⟩ := hD.keep ho (fun _ k => k) (by decide)
  exact ⟨h1, h2, (hD.a.away hD.ld hD.lB ho (fun _ k => k) (by omega) (by omega) (by decide)).more hm, (hD.c.away hD.ld hD.lB ho (fun _ k => k) (by omega) (by omega) (by decide)).more hm, hD.ij, h3, hD.keepB _, hr.mono fun b _ hb => gr_relab hb, by have := hD.clen; omega⟩

/-- A block that is nobody's. -/
def Zed (h : Hp) (lab : Nat → Nat) (z : Nat) (cs : Array Value) : Prop := Blk h z cs ∧ lab z = 7

variable {z : Nat} {cs : Array Value}

theorem Zed.away (hz : Zed h lab z cs) (ho : Only T h h') (hT : ∀ b, T b → lab b = j) (hj : j ≠ 7) : Zed h' (relab h lab j) z cs :=
  ⟨hz.1.only ho fun k => by have := hT z k; have := hz.2; omega, by rw [relab_lt hz.1.lt]; exact hz.2⟩
theorem Zed.fresh (hz : Zed h lab z cs) (ho : Only (fun _ => False) h h') (j : Nat) : Zed h' (relab h lab j) z cs :=
  ⟨hz.1.only ho id, by rw [relab_lt hz.1.lt]; exact hz.2⟩

end Am
end Go.Proofs.Ytfijmoofdafoiaa
