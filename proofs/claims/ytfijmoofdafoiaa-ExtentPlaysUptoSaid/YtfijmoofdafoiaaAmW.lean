/-
  ExtentWalls: the walk of the statement's own function.
-/
import Derived.Test.YtfijmoofdafoiaaAmV
set_option linter.unusedSimpArgs false
set_option linter.unusedVariables false
set_option maxRecDepth 100000
namespace Go.Proofs.Ytfijmoofdafoiaa
open Go Go.RowKit
namespace Am

variable {T T' : Nat → Prop} {h h' h'' : Hp} {L : Am.Loc} {B B' : Option Nat} {f f' : Nat → Option ExtS} {s s' : DSt} {d : Nat} {K : Value → Hp → Prop}

/-- A write leaves the flags of the disk and tells what is read behind it. -/
theorem write_up {n : Int} {bs : List UInt8} (ha : s.armed = false) (hd : s.down = false) (hn : 0 ≤ n ∧ n < 1024) (hb : bs.length = 128) :
    s.write n bs = (0, { s with acts := IntKind.i64.wrap (s.acts + 1), cache := s.cache ++ [(n.toNat, bs)] }) := by
  unfold DSt.write DSt.act
  rw [if_neg (by simpa using hn), if_neg (by omega), hd, ha]
  simp [DSt.put]

theorem look_put {n : Nat} {bs : List UInt8} {a : Int} (k : Nat) : ({ s with acts := a, cache := s.cache ++ [(n, bs)] } : DSt).look k = if k = n then bs else s.look k := by
  unfold DSt.look lookF
  simp only [List.foldl_append, List.foldl_cons, List.foldl_nil]
  by_cases h : n = k
  · rw [if_pos h, if_pos h.symm]
  · rw [if_neg h, if_neg (fun e => h e.symm)]

/-- Triples of numbers, one behind the other. -/
def triV (l : List (Int × Int × Int)) : List Value := l.flatMap fun x => [.int .i64 x.1, .int .i64 x.2.1, .int .i64 x.2.2]

theorem triV_get {l : List (Int × Int × Int)} {j : Nat} (hj : j < l.length) : (triV l)[j * 3]? = some (.int .i64 (l[j]'hj).1) ∧ (triV l)[j * 3 + 1]? = some (.int .i64 (l[j]'hj).2.1) ∧ (triV l)[j * 3 + 2]? = some (.int .i64 (l[j]'hj).2.2) := by
  have ha := At.flat (f := fun x : Int × Int × Int => [Value.int .i64 x.1, .int .i64 x.2.1, .int .i64 x.2.2]) (n := 3) (fun e _ => rfl) (At.all (triV l)) (List.getElem?_eq_getElem hj)
  have h0 := ha 0 _ rfl
  have h1 := ha 1 _ rfl
  have h2 := ha 2 _ rfl
  simp only [Nat.zero_add, Nat.add_zero, List.getElem?_toArray] at h0 h1 h2
  exact ⟨h0, h1, h2⟩

theorem RAt.tri {p : Option Addr} {l : List (Int × Int × Int)} (hs : RAt h p (triV l)) {j : Nat} (hj : j < l.length) :
    ∃ a, p = some a ∧ cellH h (a.add (j * 3)) = some (.int .i64 (l[j]'hj).1) ∧ cellH h (a.add (j * 3 + 1)) = some (.int .i64 (l[j]'hj).2.1) ∧ cellH h (a.add (j * 3 + 2)) = some (.int .i64 (l[j]'hj).2.2) := by
  obtain ⟨t0, t1, t2⟩ := triV_get hj
  obtain ⟨a, rfl, c0⟩ := hs _ _ t0
  obtain ⟨a1, e1, c1⟩ := hs _ _ t1
  obtain ⟨a2, e2, c2⟩ := hs _ _ t2
  cases e1; cases e2
  exact ⟨a, rfl, c0, c1, c2⟩

/-- What stands between two rounds: the table, the flags, and what the sectors are to hold. -/
structure Walls (h0 h : Hp) (L : Am.Loc) (B : Option Nat) (f : Nat → Option ExtS) (s : DSt) (M : Nat) : Prop where
  only : Only (fun _ => False) h0 h
  x : XAt h L B f s
  mine : Blk h M ((mineL f).map Value.bool).toArray
  nM : ¬ xOwn L B M
  fM : h0.size ≤ M
  fx : ∀ b, xOwn L B b → h0.size ≤ b
  armed : s.armed = false
  down : s.down = false

structure Now (h0 h : Hp) (L : Am.Loc) (B : Option Nat) (M : Nat) (view : Nat → List UInt8) (p : Option Addr) (cap : Nat) (gs : List Nat) : Prop where
  w : WholeAt h p cap gs view
  len : gs.length = 1024
  np : Off p (xOwn L B)
  pM : Off p (fun b => b = M)
  ng : ∀ g ∈ gs, ¬ xOwn L B g
  gM : ∀ g ∈ gs, g ≠ M
  fp : Fresh h0 p
  fg : ∀ g ∈ gs, h0.size ≤ g

variable {h0 : Hp} {M : Nat} {view : Nat → List UInt8} {p : Option Addr} {cap : Nat} {gs : List Nat}

theorem Walls.fresh (hw : Walls h0 h L B f s M) (ho : Only (fun _ => False) h h') : Walls h0 h' L B f s M :=
  ⟨hw.only.trans ho fun _ _ x => x, hw.x.fresh ho, hw.mine.only ho id, hw.nM, hw.fM, hw.fx, hw.armed, hw.down⟩
theorem Now.fresh (hn : Now h0 h L B M view p cap gs) (ho : Only (fun _ => False) h h') : Now h0 h' L B M view p cap gs :=
  ⟨hn.w.only ho (fun _ _ => id) (fun _ _ => id), hn.len, hn.np, hn.pM, hn.ng, hn.gM, hn.fp, hn.fg⟩

/-- A step of the table's own blocks. -/
theorem Walls.tab (hw : Walls h0 h L B f s M) (ho : Only (tOwn L.t L.S) h h') (hx : XAt h' L B f' s) (hm : mineL f' = mineL f) : Walls h0 h' L B f' s M :=
  ⟨hw.only.trans ho fun b hb hx' => absurd (hw.fx b (.inr (.inl hx'))) (by omega), hx, by rw [hm]; exact hw.mine.only ho fun e => hw.nM (.inr (.inl e)), hw.nM, hw.fM, hw.fx, hw.armed, hw.down⟩

/-- A step of the disk's own blocks. -/
theorem Walls.disk (hw : Walls h0 h L B f s M) (ho : Only (dOwn L.d B) h h') (hx : XAt h' L B' f s') (hB : ∀ b, B' = some b → B = some b ∨ h.size ≤ b) (ha : s'.armed = false) (hd : s'.down = false) : Walls h0 h' L B' f s' M := by
  have hown : ∀ b, xOwn L B' b → xOwn L B b ∨ h.size ≤ b := by
    rintro b (k | k | k | k)
    · exact .inl (.inl k)
    · exact .inl (.inr (.inl k))
    · exact .inl (.inr (.inr (.inl k)))
    · rcases hB b k with k | k
      · exact .inl (.inr (.inr (.inr k)))
      · exact .inr k
  refine ⟨hw.only.trans ho fun b hb hx' => absurd (hw.fx b (.inr (.inr hx'))) (by omega), hx, hw.mine.only ho fun e => hw.nM (.inr (.inr e)), fun e => ?_, hw.fM, fun b hb => ?_, ha, hd⟩
  · rcases hown M e with k | k
    · exact hw.nM k
    · have := hw.mine.lt; omega
  · rcases hown b hb with k | k
    · exact hw.fx b k
    · have := hw.only.1; omega
theorem Now.disk (hn : Now h0 h L B M view p cap gs) (ho : Only (dOwn L.d B) h h') (hB : ∀ b, B' = some b → B = some b ∨ h.size ≤ b) : Now h0 h' L B' M view p cap gs := by
  have hown : ∀ b, xOwn L B' b → xOwn L B b ∨ h.size ≤ b := by
    rintro b (k | k | k | k)
    · exact .inl (.inl k)
    · exact .inl (.inr (.inl k))
    · exact .inl (.inr (.inr (.inl k)))
    · rcases hB b k with k | k
      · exact .inl (.inr (.inr (.inr k)))
      · exact .inr k
  have hlt : ∀ g ∈ gs, g < h.size := fun g hg => by
    obtain ⟨i, hi⟩ := List.getElem?_of_mem hg
    exact (hn.w.blk i g hi).lt
  refine ⟨hn.w.only ho (fun a ha k => hn.np a ha (.inr (.inr k))) (fun g hg k => hn.ng g hg (.inr (.inr k))), hn.len, fun a ha k => ?_, hn.pM, fun g hg k => ?_, hn.gM, hn.fp, hn.fg⟩
  · rcases hown _ k with k | k
    · exact hn.np a ha k
    · subst ha
      obtain ⟨b, cs, rfl, hb, -⟩ := hn.w.buf
      have := hb.lt; simp only at k; omega
  · rcases hown g k with k | k
    · exact hn.ng g hg k
    · have := hlt g hg; omega

end Am
end Go.Proofs.Ytfijmoofdafoiaa
