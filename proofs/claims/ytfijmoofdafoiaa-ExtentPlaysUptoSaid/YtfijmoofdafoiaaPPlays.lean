/-
  The statement ExtentPlaysUptoSaid: the row's step over the walk.
-/
import Derived.Test.YtfijmoofdafoiaaBi
import Derived.Test.YtfijmoofdafoiaaPBulk
set_option linter.unusedVariables false
namespace Go.Proofs.Ytfijmoofdafoiaa
open Go.ChangeShapes Go.WideShapes Go.ChangeAt Go.RowKit

theorem bulk_mem {H : Type} {x : DataW H} : ∀ {l : List (DataW H)}, x ∈ l → Rows.uptoBulk x ≤ Rows.uptoBulkAll l := by
  intro l
  induction l with
  | nil => intro hx; exact (List.not_mem_nil hx).elim
  | cons y r ih =>
    intro hx
    simp only [Rows.uptoBulkAll]
    rcases List.mem_cons.1 hx with rfl | hx
    · omega
    · have := ih hx; omega

section
variable {H : Type} {enc : TypeId × Value → H} {W : World}

set_option maxRecDepth 100000 in
theorem open_kbools {fuel : Nat} {cs : List Value} {x : DataW H × List MemPlace} (h : DataW.trod enc Try.prog W 0 (fun _ => true) true fuel 52 cs = some x) :
    ∃ (q : Option Addr) (l : List Bool) (c : Nat), cs = [.slice q l.length c] ∧ Am.RAt W.heap q (l.map .bool) ∧ l.length ≤ Rows.uptoBulk x.1 := by
  rcases Go.Deep.open_bools Try.underlying52 Try.underlying4 (by kernel_rfl) h with ⟨rfl, rfl⟩ | ⟨a, len, cap, B, rfl, _, hl, hm, rfl, hcell⟩
  · exact ⟨none, [], 0, rfl, fun j x hj => by simp at hj, by simp⟩
  · have hlen : ((List.range len).map B).length = len := by simp
    refine ⟨some a, (List.range len).map B, cap, by rw [hlen], fun j x hj => ⟨a, rfl, ?_⟩, ?_⟩
    · have hj' := (List.getElem?_eq_some_iff.1 hj).1
      simp only [List.length_map, List.length_range] at hj'
      have hc := hcell j (by omega)
      rw [Am.cellH_heap, hc]
      simp [hj'] at hj
      rw [← hj]
    · rw [hlen]
      have := bulk_slice (H := H) ((List.range len).map fun i => .lit (.bool (B i))) ((List.range (cap - len)).map fun j => .lit (.bool (B (len + j))))
      simp only [List.length_map, List.length_range] at this
      unfold Go.Deep.boolRow
      simp only
      omega

set_option maxRecDepth 100000 in
theorem open_op {fuel : Nat} {cs : List Value} {x : DataW H × List MemPlace} (h : DataW.trod enc Try.prog W 0 (fun _ => true) true fuel 67 cs = some x) :
    ∃ o : Am.OpS, cs = Am.opV o ∧ Am.RAt W.heap o.kp (o.kl.map .bool) ∧ o.kl.length ≤ Rows.uptoBulk x.1 ∧ o.n ≤ 9223372036854775807 := by
  obtain ⟨xs, n, rfl, rfl, hcl, hxl, hf⟩ := DataW.trod_struct Try.underlying67 h
  have c67 : Try.prog.cellsOf 67 = 8 := by kernel_rfl
  have c3 : Try.prog.cellsOf 3 = 1 := by kernel_rfl
  have c4 : Try.prog.cellsOf 4 = 1 := by kernel_rfl
  have c5 : Try.prog.cellsOf 5 = 1 := by kernel_rfl
  have c52 : Try.prog.cellsOf 52 = 1 := by kernel_rfl
  rw [c67] at hcl
  have hx8 : xs.length = 8 := hxl
  match cs, hcl, xs, hx8 with
  | [v0, v1, v2, v3, v4, v5, v6, v7], _, [x0, x1, x2, x3, x4, x5, x6, x7], _ =>
    have f0 := hf 0 _ rfl
    have f1 := hf 1 _ rfl
    have f2 := hf 2 _ rfl
    have f3 := hf 3 _ rfl
    have f4 := hf 4 _ rfl
    have f5 := hf 5 _ rfl
    have f6 := hf 6 _ rfl
    have f7 := hf 7 _ rfl
    replace f0 : DataW.trod enc Try.prog W 0 (fun _ => true) true n 3 (([v0, v1, v2, v3, v4, v5, v6, v7].drop 0).take (Try.prog.cellsOf 3)) = some x0 := f0
    replace f1 : DataW.trod enc Try.prog W 0 (fun _ => true) true n 4 (([v0, v1, v2, v3, v4, v5, v6, v7].drop 1).take (Try.prog.cellsOf 4)) = some x1 := f1
    replace f2 : DataW.trod enc Try.prog W 0 (fun _ => true) true n 3 (([v0, v1, v2, v3, v4, v5, v6, v7].drop 2).take (Try.prog.cellsOf 3)) = some x2 := f2
    replace f3 : DataW.trod enc Try.prog W 0 (fun _ => true) true n 3 (([v0, v1, v2, v3, v4, v5, v6, v7].drop 3).take (Try.prog.cellsOf 3)) = some x3 := f3
    replace f4 : DataW.trod enc Try.prog W 0 (fun _ => true) true n 3 (([v0, v1, v2, v3, v4, v5, v6, v7].drop 4).take (Try.prog.cellsOf 3)) = some x4 := f4
    replace f5 : DataW.trod enc Try.prog W 0 (fun _ => true) true n 5 (([v0, v1, v2, v3, v4, v5, v6, v7].drop 5).take (Try.prog.cellsOf 5)) = some x5 := f5
    replace f6 : DataW.trod enc Try.prog W 0 (fun _ => true) true n 3 (([v0, v1, v2, v3, v4, v5, v6, v7].drop 6).take (Try.prog.cellsOf 3)) = some x6 := f6
    replace f7 : DataW.trod enc Try.prog W 0 (fun _ => true) true n 52 (([v0, v1, v2, v3, v4, v5, v6, v7].drop 7).take (Try.prog.cellsOf 52)) = some x7 := f7
    rw [c3] at f0
    rw [c4] at f1
    rw [c3] at f2
    rw [c3] at f3
    rw [c3] at f4
    rw [c5] at f5
    rw [c3] at f6
    rw [c52] at f7
    obtain ⟨n0, e0, -, -⟩ := DataW.trod_int Try.underlying3 f0
    obtain ⟨b1, e1, -⟩ := DataW.trod_bool Try.underlying4 f1
    obtain ⟨n2, e2, -, w2⟩ := DataW.trod_int Try.underlying3 f2
    obtain ⟨n3, e3, -, -⟩ := DataW.trod_int Try.underlying3 f3
    obtain ⟨n4, e4, -, -⟩ := DataW.trod_int Try.underlying3 f4
    obtain ⟨n5, e5, -, w5⟩ := DataW.trod_int Try.underlying5 f5
    obtain ⟨n6, e6, -, -⟩ := DataW.trod_int Try.underlying3 f6
    obtain ⟨q, l, c, e7, hrow, hlen⟩ := open_kbools f7
    simp only [List.drop_succ_cons, List.drop_zero, List.take_succ_cons, List.take_zero, List.cons.injEq, and_true] at e0 e1 e2 e3 e4 e5 e6 e7
    subst e0 e1 e2 e3 e4 e5 e6 e7
    have hx : 0 ≤ n5 ∧ n5 ≤ 255 := by simpa [Lit.wf, IntKind.min, IntKind.max, IntKind.signed, IntKind.bits] using w5
    have hn : -9223372036854775808 ≤ n2 ∧ n2 ≤ 9223372036854775807 := by simpa [Lit.wf, IntKind.min, IntKind.max, IntKind.signed, IntKind.bits] using w2
    obtain ⟨b, hb⟩ : ∃ b : UInt8, n5 = (b.toNat : Int) := by
      obtain ⟨b, hb⟩ := Am.u8_of (n := n5)
      refine ⟨b, ?_⟩
      rw [← hb, IntKind.wrap_u8]; omega
    subst hb
    refine ⟨⟨n0, b1, n2, n3, n4, b, n6, q, l, c⟩, rfl, hrow, ?_, hn.2⟩
    have := bulk_mem (x := x7.1) (l := [x0.1, x1.1, x2.1, x3.1, x4.1, x5.1, x6.1, x7.1]) (by simp)
    simp only [List.map_cons, List.map_nil, Rows.uptoBulk]
    show l.length ≤ _
    omega

theorem op_rows {a : Addr} : ∀ (l : List Am.OpS) (o : Nat), (∀ i (hi : i < l.length) j x, (Am.opV (l[i]'hi))[j]? = some x → W.cell? (a.add (o + i * 8 + j)) = some x) →
    ∀ j x, (l.flatMap Am.opV)[j]? = some x → W.cell? (a.add (o + j)) = some x := by
  intro l
  induction l with
  | nil => intro o _ j x hj; simp at hj
  | cons y r ih =>
    intro o h j x hj
    rw [List.flatMap_cons, List.getElem?_append] at hj
    have hy : (Am.opV y).length = 8 := rfl
    rw [hy] at hj
    split at hj
    · have := h 0 (by simp) j x hj
      simpa using this
    · have := ih (o + 8) (fun i hi j x hx => by
        have hh := h (i + 1) (by simpa using hi) j x (by simpa using hx)
        rw [show o + (i + 1) * 8 + j = o + 8 + i * 8 + j from by omega] at hh
        exact hh) (j - 8) x hj
      rw [show o + 8 + (j - 8) = o + j from by omega] at this
      exact this

set_option maxRecDepth 100000 in
theorem open_ops {v : Value} {d : DataW H} {p : List MemPlace} {r : Reach} {b0 : Nat} (hval : Value.okWide Try.prog W r b0 61 v) (h : DataW.Trod enc Try.prog W 0 (fun _ => true) true 61 v d p) (hb : Rows.uptoBulk d ≤ 1048576) :
    ∃ (q : Option Addr) (os : List Am.OpS) (c : Nat), v = .slice q os.length c ∧ Am.RAt W.heap q (os.flatMap Am.opV) ∧ (∀ o ∈ os, Am.OpOk W.heap o) ∧ os.length ≤ 1048576 := by
  obtain ⟨a0, len, cap, rfl⟩ := okWide_slice Try.underlying61 hval
  obtain ⟨fuel, hf⟩ := h
  have c67 : Try.prog.cellsOf 67 = 8 := by kernel_rfl
  rcases DataW.trod_slice Try.underlying61 hf with ⟨hcs, hx⟩ | ⟨a, len', cap', elems, rest, n, _, hcs, hx, hb0, hl, hm, hlen, hel, hsp, hns⟩
  · simp [Value.cells] at hcs
    obtain ⟨rfl, rfl, rfl⟩ := hcs
    exact ⟨none, [], 0, rfl, fun j x hj => by simp at hj, fun o ho => (List.not_mem_nil ho).elim, by simp⟩
  · simp [Value.cells] at hcs
    obtain ⟨rfl, rfl, rfl⟩ := hcs
    simp only [Prod.mk.injEq] at hx
    obtain ⟨rfl, rfl⟩ := hx
    have ex : ∀ i, i < len → ∃ o : Am.OpS, (∀ j x, (Am.opV o)[j]? = some x → W.cell? (a.add (i * 8 + j)) = some x) ∧ Am.OpOk W.heap o := by
      intro i hi
      have h1 := hel i hi
      rw [c67, List.getElem?_eq_getElem (by omega), Option.bind_eq_some_iff] at h1
      obtain ⟨cs, hcs, hy⟩ := h1
      obtain ⟨-, hcl, hcell⟩ := World.cells?_some hcs
      obtain ⟨o, rfl, hrow, hkl, hn⟩ := open_op hy
      refine ⟨o, fun j x hj => ?_, hrow, ?_, hn⟩
      · have hj' := (List.getElem?_eq_some_iff.1 hj).1
        have := hcell j (by have e : (Am.opV o).length = 8 := rfl; omega)
        rw [Addr.add_add, hj] at this
        exact this
      · have hm1 := bulk_mem (x := (elems[i]'(by omega)).1) (l := elems.map (·.1)) (List.mem_map_of_mem (List.getElem_mem (by omega)))
        simp only [Rows.uptoBulk] at hb
        omega
    obtain ⟨g, hg⟩ : ∃ g : Nat → Am.OpS, ∀ i, i < len → (∀ j x, (Am.opV (g i))[j]? = some x → W.cell? (a.add (i * 8 + j)) = some x) ∧ Am.OpOk W.heap (g i) := by
      refine ⟨fun i => if hi : i < len then Classical.choose (ex i hi) else ⟨0, false, 0, 0, 0, 0, 0, none, [], 0⟩, fun i hi => ?_⟩
      simp only [dif_pos hi]
      exact Classical.choose_spec (ex i hi)
    have hll : ((List.range len).map g).length = len := by simp
    refine ⟨some a, (List.range len).map g, cap, by rw [hll], fun j x hj => ⟨a, rfl, ?_⟩, fun o ho => ?_, ?_⟩
    · have := op_rows (W := W) (a := a) ((List.range len).map g) 0 (fun i hi j x hx => by
        have hi' : i < len := by simpa using hi
        have := (hg i hi').1 j x (by simpa using hx)
        rw [Nat.zero_add]; exact this) j x hj
      rw [Am.cellH_heap]; simpa using this
    · obtain ⟨i, hi, rfl⟩ := List.mem_map.1 ho
      exact (hg i (List.mem_range.1 hi)).2
    · have := bulk_slice (H := H) (elems.map (·.1)) (rest.map (·.1))
      simp only [List.length_map] at this
      rw [hll]; omega
end

theorem plays_calls {p0 : Option Addr} {os : List Am.OpS} {c0 : Nat} (W : World) (h0 : Am.RAt W.heap p0 (os.flatMap Am.opV)) (hok : ∀ o ∈ os, Am.OpOk W.heap o) (hl : os.length ≤ 1048576) :
    Calls Try.prog 6 #[.slice p0 os.length c0] W fun e W' => e = .returned (.bool true) ∧ Below W.heap.size W W' := by
  have hr : Am.Run tc.P 6 #[.slice p0 os.length c0] W.heap (fun v h' => v = .bool true ∧ Am.Only (fun _ => False) W.heap h') := Am.plays_spec h0 hok hl fun h' ho => ⟨rfl, ho⟩
  refine Calls.mono (hr W rfl) ?_
  rintro e W' ⟨v, rfl, hs, rfl, ho⟩
  exact ⟨rfl, below_of hs ho⟩

set_option maxRecDepth 100000 in
theorem plays_lifted (os : Os) (started : os.Started) (H : Type) (enc : TypeId × Value → H) (F : Stop.Interp) :
    ReturnsInHanded {} Try.checked os 6 .any ((Rows.OpenSpec.upto Rows.extentPlaysSpec).pre6 enc Try.prog Try.f6 Rows.extentPlaysUptoRow.domain false) (((Rows.OpenSpec.upto Rows.extentPlaysSpec).at F).post enc Try.prog Try.f6 false true false false) := by
  refine returnsInHanded_of_cond (C := Try.checked) (s := Rows.OpenSpec.upto Rows.extentPlaysSpec) (k := Rows.uptoSmall) rfl own started (by kernel_rfl) Try.func6
    (OpenSpec.witness (enc := enc) (C := Try.checked) (s := Rows.OpenSpec.upto Rows.extentPlaysSpec) (k := Rows.uptoSmall) rfl false ⟨#[], #[.slice none 0 0], []⟩ 8 (by kernel_rfl) (by kernel_rfl) (by kernel_rfl)
      (x := ([.nil], [], [])) (by kernel_rfl) rfl (by kernel_rfl)) ?_
  intro W base args ds gs before hval0 hW _ hk _
  have hkb := bulk_bound hk
  have hval : ∀ (j : Nat) t v, Try.f6.params[j]? = some t → args[j]? = some v → Value.okWide Try.prog W .any base t v := hval0
  have hW' := hW
  obtain ⟨p, q, hA0, hV, rfl, hfz, hnd⟩ := hW
  have hA : DataW.TrodAll enc Try.prog W 0 (fun _ => true) true Try.f6.params.toList args.toList ds p := hA0
  rw [Try.params6] at hA hval
  obtain ⟨v0, vs0, d0, ds0, p0, q0, hargs, rfl, rfl, h0, r0⟩ := trodAll_cons hA
  obtain ⟨rfl, rfl, rfl⟩ := trodAll_nil r0
  obtain rfl : args = #[v0] := by cases args; simp_all
  obtain ⟨rfl, rfl⟩ := trodVars_none hV
  have hlt : ∀ x ∈ p0 ++ [] ++ [], x.block < W.heap.size := fun x hx => by simpa using hW'.lt x hx
  simp only [Rows.uptoBulkAll, List.append_nil] at hkb
  obtain ⟨a0, l0, c0, rfl, hr0, hok0, hb0⟩ := open_ops (hval 0 61 v0 rfl rfl) h0 (by omega)
  clear hA0 hval0
  refine (plays_calls W hr0 hok0 hb0).mono fun e W' ⟨he, bel⟩ => ?_
  subst he
  refine ⟨_, rfl, ?_⟩
  refine ⟨_, _, _, [], p0 ++ [], [], hW', trodAll_cons_mk (shut_bool Try.underlying4 _) trodAll_mk0,
    trodAll_cons_mk (Below.trod laid (by kernel_rfl) (of_decide_eq_true (by kernel_rfl)) h0 bel fun x hx => hlt x (by simp [hx])) trodAll_mk0, rfl, bel.frame _, fun h => by cases h⟩

theorem extentPlays_holds : Rows.ExtentPlaysUptoSaid :=
  OpenClaim.holds_of_cond 6 Try.f6 rfl rfl rfl rfl rfl rfl rfl ⟨rfl, rfl, rfl, rfl, rfl⟩ rfl rfl rfl rfl rfl (by kernel_rfl) Try.func6 (by kernel_rfl)
    (of_decide_eq_true (by kernel_rfl)) (by unfold Func.isWrapper; first | (rw [if_pos (by decide +kernel)]; kernel_rfl) | (rw [if_neg (by decide +kernel)]; exact ⟨rfl, rfl⟩))
    (fun os started H enc _ F => plays_lifted os started H enc F)

#print axioms extentPlays_holds

end Go.Proofs.Ytfijmoofdafoiaa
