/-
  What a reading of a slice of numbers, or of triples, gives to a walk: a row that is only read, and how long it is at most.
-/
import Derived.Test.YtfijmoofdafoiaaRows
import Derived.Test.YtfijmoofdafoiaaAmY
import Derived.ProofKit
import Derived.OpenShut
import Derived.JoinedCond
import Derived.Laws.IdiomArrays
import Derived.Deep.Grids
set_option linter.unusedVariables false
namespace Go.Proofs.Ytfijmoofdafoiaa
open Go.ChangeShapes Go.WideShapes Go.ChangeAt Go.RowKit

theorem own : ownKnob Try.prog.godebug = none := by kernel_rfl

theorem below_of {W W' : World} (hs : Am.Stay W W') (ho : Am.Only (fun _ => False) W.heap W'.heap) : Below W.heap.size W W' :=
  ⟨hs.2.1, hs.1, hs.2.2, ho.1, fun k hk => ho.2 k hk id⟩

theorem laid : laidOutB Try.prog = true := by kernel_rfl

theorem bulk_bound {H : Type} {l : List (DataW H)} (hk : Rows.uptoSmall H l = true) : Rows.uptoBulkAll l ≤ 1048576 := of_decide_eq_true hk

theorem bulk_one {H : Type} (d : DataW H) : 1 ≤ Rows.uptoBulk d := by
  cases d with
  | lit l => cases l <;> simp [Rows.uptoBulk]
  | nil => simp [Rows.uptoBulk]
  | ptr d => simp [Rows.uptoBulk]
  | slice elems spare => simp [Rows.uptoBulk]
  | agg parts => simp [Rows.uptoBulk]
  | iface t d => simp [Rows.uptoBulk]
  | map entries => simp [Rows.uptoBulk]
  | held h => simp [Rows.uptoBulk]

theorem bulk_length {H : Type} (l : List (DataW H)) : l.length ≤ Rows.uptoBulkAll l := by
  induction l with
  | nil => simp [Rows.uptoBulkAll]
  | cons x r ih => have := bulk_one x; simp only [Rows.uptoBulkAll, List.length_cons]; omega

theorem bulk_slice {H : Type} (elems spare : List (DataW H)) : elems.length + spare.length + 1 ≤ Rows.uptoBulk (.slice elems spare) := by
  have h1 := bulk_length elems
  have h2 := bulk_length spare
  simp only [Rows.uptoBulk]
  omega

set_option maxRecDepth 100000 in
theorem open_rints {H : Type} {enc : TypeId × Value → H} {W : World} {v : Value} {d : DataW H} {p : List MemPlace} {t e : TypeId} {r : Reach} {b0 : Nat} (ht : Try.prog.underlying t = some (.slice e)) (he : Try.prog.underlying e = some (.int .i64)) (hc : Try.prog.cellsOf e = 1)
    (hval : Value.okWide Try.prog W r b0 t v) (h : DataW.Trod enc Try.prog W 0 (fun _ => true) true t v d p) :
    ∃ (q : Option Addr) (l : List Int) (c : Nat), v = .slice q l.length c ∧ Am.RAt W.heap q (Am.intV l) ∧ l.length ≤ Rows.uptoBulk d ∧ l.length ≤ c := by
  obtain ⟨a0, len, cap, rfl⟩ := okWide_slice ht hval
  obtain ⟨fuel, hf⟩ := h
  rcases open_ints ht he hc hf with ⟨hcs, hx⟩ | ⟨a, len', cap', zs, hcs, _, hl, hm, hz, hx, hcell, hwz⟩
  · simp [Value.cells] at hcs
    obtain ⟨rfl, rfl, rfl⟩ := hcs
    exact ⟨none, [], 0, rfl, fun j x hj => by simp [Am.intV] at hj, by simp, Nat.le_refl _⟩
  · simp [Value.cells] at hcs
    obtain ⟨rfl, rfl, rfl⟩ := hcs
    simp only [Prod.mk.injEq] at hx
    obtain ⟨rfl, rfl⟩ := hx
    simp only [if_true] at hz
    have hlen : (zs.take len).length = len := by rw [List.length_take]; omega
    refine ⟨some a, zs.take len, cap, by rw [hlen], fun j x hj => ⟨a, rfl, ?_⟩, ?_, by rw [hlen]; exact hl⟩
    · have hj' := (List.getElem?_eq_some_iff.1 hj).1
      simp only [Am.intV, List.length_map, hlen] at hj'
      have hc := hcell j (by omega)
      rw [Am.cellH_heap, hc]
      simp only [Am.intV, List.getElem?_map, List.getElem?_take, if_pos hj', List.getElem?_eq_getElem (show j < zs.length by omega), Option.map_some, Option.some.injEq] at hj
      rw [← hj, List.getD_eq_getElem?_getD, List.getElem?_eq_getElem (show j < zs.length by omega)]; rfl
    · have := bulk_slice (H := H) (lits .i64 (zs.take len)) (lits .i64 (zs.drop len))
      simp only [lits, List.length_map] at this ⊢
      omega

set_option maxRecDepth 100000 in
theorem open_rbools {H : Type} {enc : TypeId × Value → H} {W : World} {v : Value} {d : DataW H} {p : List MemPlace} {t e : TypeId} {r : Reach} {b0 : Nat} (ht : Try.prog.underlying t = some (.slice e)) (he : Try.prog.underlying e = some .bool) (hc : Try.prog.cellsOf e = 1)
    (hval : Value.okWide Try.prog W r b0 t v) (h : DataW.Trod enc Try.prog W 0 (fun _ => true) true t v d p) :
    ∃ (q : Option Addr) (l : List Bool) (c : Nat), v = .slice q l.length c ∧ Am.RAt W.heap q (l.map .bool) ∧ l.length ≤ Rows.uptoBulk d ∧ l.length ≤ c := by
  obtain ⟨a0, len, cap, rfl⟩ := okWide_slice ht hval
  obtain ⟨fuel, hf⟩ := h
  rcases Go.Deep.open_bools ht he hc hf with ⟨hcs, hx⟩ | ⟨a, len', cap', B, hcs, _, hl, hm, hx, hcell⟩
  · simp [Value.cells] at hcs
    obtain ⟨rfl, rfl, rfl⟩ := hcs
    exact ⟨none, [], 0, rfl, fun j x hj => by simp at hj, by simp, Nat.le_refl _⟩
  · simp [Value.cells] at hcs
    obtain ⟨rfl, rfl, rfl⟩ := hcs
    simp only [Prod.mk.injEq] at hx
    obtain ⟨rfl, rfl⟩ := hx
    have hlen : ((List.range len).map B).length = len := by simp
    refine ⟨some a, (List.range len).map B, cap, by rw [hlen], fun j x hj => ⟨a, rfl, ?_⟩, ?_, by rw [hlen]; exact hl⟩
    · have hj' := (List.getElem?_eq_some_iff.1 hj).1
      simp only [List.length_map, List.length_range] at hj'
      have hc := hcell j (by omega)
      rw [Am.cellH_heap, hc]
      simp [hj'] at hj
      rw [← hj]
    · rw [hlen]
      have := bulk_slice (H := H) ((List.range len).map fun i => .lit (.bool (B i))) ((List.range (cap - len)).map fun j => .lit (.bool (B (len + j))))
      simp only [List.length_map, List.length_range] at this
      unfold Go.Deep.boolRow
      simp only
      omega

theorem tri_rows {W : World} {a : Addr} : ∀ (l : List (Int × Int × Int)) (o : Nat),
    (∀ i (hi : i < l.length), W.cell? (a.add (o + i * 3)) = some (.int .i64 (l[i]'hi).1) ∧ W.cell? (a.add (o + i * 3 + 1)) = some (.int .i64 (l[i]'hi).2.1) ∧ W.cell? (a.add (o + i * 3 + 2)) = some (.int .i64 (l[i]'hi).2.2)) →
    ∀ j x, (Am.triV l)[j]? = some x → W.cell? (a.add (o + j)) = some x := by
  intro l
  induction l with
  | nil => intro o _ j x hj; simp [Am.triV] at hj
  | cons y r ih =>
    intro o h j x hj
    have e : Am.triV (y :: r) = .int .i64 y.1 :: .int .i64 y.2.1 :: .int .i64 y.2.2 :: Am.triV r := by simp [Am.triV]
    rw [e] at hj
    have h0 := h 0 (by simp)
    match j, hj with
    | 0, hj => simp at hj; subst hj; simpa using h0.1
    | 1, hj => simp at hj; subst hj; simpa using h0.2.1
    | 2, hj => simp at hj; subst hj; simpa using h0.2.2
    | j + 3, hj =>
      have := ih (o + 3) (fun i hi => by
        have hh := h (i + 1) (by simpa using hi)
        rw [show o + (i + 1) * 3 = o + 3 + i * 3 from by omega] at hh
        simpa using hh) j x (by simpa using hj)
      rw [show o + (j + 3) = o + 3 + j from by omega]; exact this

set_option maxRecDepth 100000 in
theorem open_rtris {H : Type} {enc : TypeId × Value → H} {W : World} {v : Value} {d : DataW H} {p : List MemPlace} {t e u : TypeId} {r : Reach} {b0 : Nat} (ht : Try.prog.underlying t = some (.slice e)) (he : Try.prog.underlying e = some (.array 3 u)) (hu : Try.prog.underlying u = some (.int .i64)) (hc : Try.prog.cellsOf e = 3) (hcu : Try.prog.cellsOf u = 1)
    (hval : Value.okWide Try.prog W r b0 t v) (h : DataW.Trod enc Try.prog W 0 (fun _ => true) true t v d p) :
    ∃ (q : Option Addr) (l : List (Int × Int × Int)) (c : Nat), v = .slice q l.length c ∧ Am.RAt W.heap q (Am.triV l) ∧ l.length ≤ Rows.uptoBulk d := by
  obtain ⟨a0, len, cap, rfl⟩ := okWide_slice ht hval
  obtain ⟨fuel, hf⟩ := h
  rcases DataW.trod_slice ht hf with ⟨hcs, hx⟩ | ⟨a, len', cap', elems, rest, n, _, hcs, hx, hb, hl, hm, hlen, hel, hsp, hns⟩
  · simp [Value.cells] at hcs
    obtain ⟨rfl, rfl, rfl⟩ := hcs
    exact ⟨none, [], 0, rfl, fun j x hj => by simp [Am.triV] at hj, by simp⟩
  · simp [Value.cells] at hcs
    obtain ⟨rfl, rfl, rfl⟩ := hcs
    simp only [Prod.mk.injEq] at hx
    obtain ⟨rfl, rfl⟩ := hx
    have ex : ∀ i, i < len → ∃ x : Int × Int × Int, W.cell? (a.add (i * 3)) = some (.int .i64 x.1) ∧ W.cell? (a.add (i * 3 + 1)) = some (.int .i64 x.2.1) ∧ W.cell? (a.add (i * 3 + 2)) = some (.int .i64 x.2.2) := by
      intro i hi
      have h1 := hel i hi
      rw [hc, List.getElem?_eq_getElem (by omega), Option.bind_eq_some_iff] at h1
      obtain ⟨cs, hcs, hy⟩ := h1
      obtain ⟨-, hcl, hcell⟩ := World.cells?_some hcs
      match cs, hcl with
      | [c0, c1, c2], _ =>
        obtain ⟨y0, y1, y2, m, -, t0, t1, t2⟩ := trod_array3 he hcu hy
        obtain ⟨n0, e0, -⟩ := DataW.trod_int hu t0
        obtain ⟨n1, e1, -⟩ := DataW.trod_int hu t1
        obtain ⟨n2, e2, -⟩ := DataW.trod_int hu t2
        simp only [List.cons.injEq, and_true] at e0 e1 e2
        subst e0 e1 e2
        have c0 := hcell 0 (by decide)
        have c1 := hcell 1 (by decide)
        have c2 := hcell 2 (by decide)
        rw [Addr.add_add] at c0 c1 c2
        exact ⟨(n0, n1, n2), c0, c1, c2⟩
    obtain ⟨g, hg⟩ : ∃ g : Nat → Int × Int × Int, ∀ i, i < len → W.cell? (a.add (i * 3)) = some (.int .i64 (g i).1) ∧ W.cell? (a.add (i * 3 + 1)) = some (.int .i64 (g i).2.1) ∧ W.cell? (a.add (i * 3 + 2)) = some (.int .i64 (g i).2.2) := by
      refine ⟨fun i => if hi : i < len then Classical.choose (ex i hi) else (0, 0, 0), fun i hi => ?_⟩
      simp only [dif_pos hi]
      exact Classical.choose_spec (ex i hi)
    have hll : ((List.range len).map g).length = len := by simp
    refine ⟨some a, (List.range len).map g, cap, by rw [hll], fun j x hj => ⟨a, rfl, ?_⟩, ?_⟩
    · have := tri_rows (W := W) (a := a) ((List.range len).map g) 0 (fun i hi => by
        have hi' : i < len := by simpa using hi
        have := hg i hi'
        simpa using this) j x hj
      rw [Am.cellH_heap]; simpa using this
    · have := bulk_slice (H := H) (elems.map (·.1)) (rest.map (·.1))
      simp only [List.length_map] at this
      rw [hll]; omega

end Go.Proofs.Ytfijmoofdafoiaa
