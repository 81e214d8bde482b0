/-
  The range over the claimed extents: the iterator and its caller.
-/
import Derived.RangeFuncNested
import Derived.RangeFuncBox
import Derived.RangeFuncLeaves
import Derived.RangeFuncCalls
import Derived.RangeFuncBound
import Derived.Shelf.Abstract
import Derived.OwnWalkIn
import Derived.TacticsInMore
import Derived.LoopNIn
import Derived.LoopIn
import Derived.Maps.AppendAt
import Derived.Test.YtfijmoofdafoiaaAmT
set_option linter.unusedSimpArgs false
set_option linter.unusedVariables false
namespace Go.Proofs.Ytfijmoofdafoiaa
open Go Go.RowKit Go.Shelf
open Am

attribute [local go_sem] Oper.semAt_some

theorem below_only {n₀ : Nat} {A B : World} (hb : Below n₀ A B) : Only (fun b => n₀ ≤ b) A.heap B.heap := ⟨hb.size, fun b _ hn => hb.block b (by omega)⟩

theorem callsIn_run {f : FuncId} {n : Nat} {args : Array Value} {w : World} {K : Value → Hp → Prop} (hr : Run tc.P f args w.heap K) :
    CallsIn Fence.wide n Try.prog f args w fun e w' => ∃ v, e = .returned v ∧ Stay w w' ∧ K v w'.heap := callsIn_wide.2 (hr w rfl)

def Nx (f : Nat → Option ExtS) (k : Nat) (i : Int) : Prop :=
  (i = -1 ∧ heldFrom f k = []) ∨ ∃ (j : Nat) (x : ExtS), i = (j : Int) ∧ k ≤ j ∧ j < 32 ∧ f j = some x ∧ heldFrom f k = (j, x) :: heldFrom f (j + 1)

theorem next_in {n k t S : Nat} {f : Nat → Option ExtS} {W : World} (ht : TabAt W.heap t S f) (hk : k ≤ 32) :
    CallsIn Fence.wide n Try.prog 59 #[.pointer (some ⟨t, 0, none⟩), .int .i64 (k : Int)] W fun e W' => ∃ i, e = .returned (.int .i64 i) ∧ Nx f k i ∧ W'.heap = W.heap ∧ W.grownBy W' none := by
  refine (callsIn_run (K := fun v h' => h' = W.heap ∧ ∃ i, v = .int .i64 i ∧ Nx f k i) (next_spec ht hk (fun h0 => ⟨rfl, _, rfl, .inl ⟨rfl, h0⟩⟩) fun j x h1 h2 h3 h4 => ⟨rfl, _, rfl, .inr ⟨j, x, rfl, h1, h2, h3, h4⟩⟩)).mono ?_
  rintro e W' ⟨v, rfl, hs, hh, i, rfl, hn⟩
  exact ⟨i, rfl, hn, hh, ⟨hs.2.1, hs.1, hs.2.2, by rw [hh]; exact Nat.le_refl _, fun k _ _ => by rw [hh]⟩⟩

theorem next_in' {n k t S : Nat} {m : Int} {f : Nat → Option ExtS} {W : World} (ht : TabAt W.heap t S f) (hm : m = (k : Int)) (hk : k ≤ 32) :
    CallsIn Fence.wide n Try.prog 59 #[.pointer (some ⟨t, 0, none⟩), .int .i64 m] W fun e W' => ∃ i, e = .returned (.int .i64 i) ∧ Nx f k i ∧ W'.heap = W.heap ∧ W.grownBy W' none := by
  subst hm; exact next_in ht hk

def encX (x : Nat × ExtS) : Array Value := #[.int .i64 (x.1 : Int), .agg (extV x.2).toArray]
/-- What a round keeps: what lay below n₀, and the iterator's own box. -/
def KpB (n₀ Bn : Nat) (W W' : World) : Prop := Below n₀ W W' ∧ W'.heap[Bn]? = W.heap[Bn]?

def leftOf (v : Value) : Nat := match v with | .int _ i => if i < 0 then 0 else (33 - i).toNat | _ => 0

set_option maxRecDepth 100000 in
set_option maxHeartbeats 2000000 in
theorem all1_in (n : Nat) (hn : 1 ≤ n) (l Bn n₀ t S : Nat) (f : Nat → Option ExtS) (J Jx : List (Nat × ExtS) → World → Prop) {B0 : Nat} (hJ : AbidesFrom B0 J)
    (hY : ∀ pre x W, J pre W → pre.length < 33 → YieldAt Fence.wide (n - 1) Try.prog l (encX x) W fun e W' =>
      (e = .returned (.bool true) ∧ J (pre ++ [x]) W' ∧ KpB n₀ Bn W W') ∨ (e = .returned (.bool false) ∧ Jx (pre ++ [x]) W'))
    (W : World) (hBn : W.cell? ⟨Bn, 0, none⟩ = some (.pointer (some ⟨t, 0, none⟩))) (hT : TabAt W.heap t S f) (ht : t < n₀) (hS : S < n₀) (h0 : J [] W) :
    CallsIn Fence.wide n Try.prog 58 #[.func (.yield l) #[] #[], .pointer (some ⟨Bn, 0, none⟩)] W fun e W' => (∃ v, e = .returned v) ∧
      ((∃ ys, ys = heldFrom f 0 ∧ J ys W') ∨ (∃ pre, pre <+: heldFrom f 0 ∧ Jx pre W')) := by
  refine callsIn_of_wp Try.func58 rfl trivial ?_
  simp only [Try.ntmps58, List.size_toArray, List.length_cons, List.length_nil, Nat.reduceAdd, Nat.reduceSub, Array.replicate_succ, Array.replicate_zero, List.push_toArray, List.append_toArray, List.nil_append, List.cons_append]
  gi_wp2_with (refine ⟨trivial, ?_⟩; gi_at_call 59; refine (next_in (k := 0) hT (by decide)).mono ?_; rintro e w1 ⟨i0, rfl, hn0, hh0, hg0⟩)
  gi_loopw [3] (fun p wr => ∃ (pre rest : List (Nat × ExtS)) (i : Int) (k : Nat), p = .int .i64 i ∧ heldFrom f 0 = pre ++ rest ∧ rest = heldFrom f k ∧ Nx f k i ∧ TabAt wr.heap t S f ∧ wr.cell? ⟨Bn, 0, none⟩ = some (.pointer (some ⟨t, 0, none⟩)) ∧ J pre wr)
    (fun p wr => leftOf p)
  case atStart =>
    exact ⟨[], heldFrom f 0, i0, 0, rfl, rfl, rfl, hn0, by rw [hh0]; exact hT, (World.cell?_of_block (by rw [hh0])).trans hBn, hJ [] W w1 none h0 hg0 (fun r e => by cases e)⟩
  case round =>
    obtain ⟨pre, rest, i, k, rfl, hx, hr, hN, hT', hB', hJ'⟩ := hrel
    rcases hN with ⟨rfl, hnil⟩ | ⟨j, x, rfl, hkj, hj, hf, hcons⟩
    · gi_wp2
      go_end0
      exact ⟨⟨_, rfl⟩, .inl ⟨pre, by rw [hx, hr, hnil]; simp, hJ'⟩⟩
    · have hj0 : (0 : Int) ≤ (j : Int) := by omega
      have hj1 : (j : Int) < 32 := by omega
      obtain ⟨cs, cnt, low, hb⟩ := id hT'
      have hrow := hb.rows j hj
      rw [hf] at hrow
      have ht0 : wr.cell? ⟨t, 0, none⟩ = some (.slice (some ⟨S, 0, none⟩) 32 32) := cell_at hb.tb rfl
      have hr0 : wr.cell? ⟨S, j * 4 + 1, none⟩ = some (.int .i64 x.num) := cell_at hb.sb (hrow.row 0 _ rfl)
      have hr1 : wr.cell? ⟨S, j * 4 + 1 + 1, none⟩ = some (.int .i64 x.ser) := cell_at hb.sb (hrow.row 1 _ rfl)
      have hr2 : wr.cell? ⟨S, j * 4 + 1 + 2, none⟩ = some (.int .i64 x.holds) := cell_at hb.sb (hrow.row 2 _ rfl)
      have hlen : pre.length < 33 := by
        have := heldGo_le f 32 0
        have e : heldFrom f 0 = heldGo f 32 0 := rfl
        rw [← e, hx, List.length_append] at this
        omega
      obtain ⟨fn, tmps, assign, body, hy, hR⟩ := hY pre (j, x) wr hJ' hlen
      dsimp only [encX, extV] at hy
      gi_wp2
      refine hR.mono ?_
      rintro e W3 (⟨rfl, hJ3, hk3⟩ | ⟨rfl, hJx3⟩)
      · have hT3 : TabAt W3.heap t S f := hT'.only (below_only hk3.1) (fun b hb => by rcases hb with rfl | rfl <;> omega)
        have hB3 : W3.cell? ⟨Bn, 0, none⟩ = some (.pointer (some ⟨t, 0, none⟩)) := (World.cell?_of_block hk3.2).trans hB'
        gi_wp2_with (refine ⟨trivial, ?_⟩; gi_at_call 59; refine (next_in' (k := j + 1) hT3 (by first | rfl | exact w64 (by omega) (by omega) | (simp; done) | (rw [w64 (by omega) (by omega)]; rfl)) (by omega)).mono ?_; rintro e w5 ⟨i5, rfl, hn5, hh5, hg5⟩)
        refine ⟨⟨pre ++ [(j, x)], heldFrom f (j + 1), i5, j + 1, rfl, by rw [hx, hr, hcons]; simp, rfl, hn5, by rw [hh5]; exact hT3, (World.cell?_of_block (by rw [hh5])).trans hB3, hJ _ W3 w5 none hJ3 hg5 (fun r e => by cases e)⟩, ?_⟩
        have e1 : leftOf (.int .i64 (j : Int)) = 33 - j := by simp only [leftOf]; rw [if_neg (by omega)]; omega
        rw [e1]
        rcases hn5 with ⟨rfl, _⟩ | ⟨j5, x5, rfl, h51, h52, _⟩
        · show 0 < 33 - j; omega
        · have e2 : leftOf (.int .i64 (j5 : Int)) = 33 - j5 := by simp only [leftOf]; rw [if_neg (by omega)]; omega
          rw [e2]; omega
      · gi_wp2
        refine bodyPost_ret (results_none rfl _ _ _) rfl ?_
        exact ⟨⟨_, rfl⟩, .inr ⟨pre ++ [(j, x)], ⟨heldFrom f (j + 1), by rw [hx, hr, hcons]; simp⟩, hJx3⟩⟩

set_option maxHeartbeats 1000000 in
theorem all_in (n : Nat) (p0 : Option Addr) (w : World) :
    CallsIn Fence.wide n Try.prog 37 #[.pointer p0] w fun e w' => e = .returned (.func (.func 58) #[] #[.pointer (some ⟨w.heap.size, 0, none⟩)]) ∧ w' = w.alloc (.cells #[.pointer p0] 71) := by
  refine callsIn_of_wp Try.func37 rfl trivial ?_
  simp only [Try.ntmps37, List.size_toArray, List.length_cons, List.length_nil, Nat.reduceAdd, Nat.reduceSub, Array.replicate_succ, Array.replicate_zero, List.push_toArray, List.append_toArray, List.nil_append, List.cons_append]
  gi_wp2
  go_ret
  exact ⟨rfl, rfl⟩

theorem all_stops (n : Nat) (hn : 1 ≤ n) (Bn n₀ t S : Nat) (f : Nat → Option ExtS) (w : World) (hBn : Bn < w.heap.size) (hn₀ : n₀ ≤ w.heap.size)
    (hc : w.cell? ⟨Bn, 0, none⟩ = some (.pointer (some ⟨t, 0, none⟩))) (hT : TabAt w.heap t S f) (ht : t < n₀) (hS : S < n₀) :
    SeqStopsK Fence.wide n Try.prog 58 #[.pointer (some ⟨Bn, 0, none⟩)] encX (KpB n₀ Bn) (fun ys => ys = heldFrom f 0) (fun pre => pre <+: heldFrom f 0) 33 w := fun l J Jx W hW hJ _ hY h0 =>
  all1_in n hn l Bn n₀ t S f J Jx hJ hY W ((hW.cell (p := ⟨Bn, 0, none⟩) hBn).trans hc) (hT.only (below_only (hW.mono hn₀)) (fun b hb => by rcases hb with rfl | rfl <;> omega)) ht hS h0

theorem info49 : (Try.prog.info? 49).map (fun i => (i.zero, i.size, i.bytes)) = some (some (.agg #[.int .i64 0, .int .i64 0, .int .i64 0]), 3, 24) := by kernel_rfl

theorem cells_new (W : World) (l : List Value) (t : TypeId) : ∀ (j : Nat) (u : Value), l[j]? = some u → (W.alloc (.cells l.toArray t)).cell? ((⟨W.heap.size, 0, none⟩ : Addr).add j) = some u := by
  intro j u hj
  have : Blk (W.heap.push (.cells l.toArray t)) W.heap.size l.toArray := Blk.new _ _ _
  have h2 := cell_at (o := 0 + j) this (v := u) (by simpa using hj)
  rw [add_mk]; exact h2
theorem maxLen_33 {k : Nat} (hk : k < 33) : k + 1 ≤ maxLen := by
  have : (33 : Nat) ≤ maxLen := by decide
  omega

def flatX (l : List (Nat × ExtS)) : List Value := l.flatMap fun x => extV x.2

set_option maxRecDepth 100000 in
set_option maxHeartbeats 2000000 in
theorem list_in (n : Nat) (hn : 3 ≤ n) (w : World) {L : Am.Loc} {B : Option Nat} {f : Nat → Option ExtS} {s : DSt} (hx : XAt w.heap L B f s) :
    CallsIn Fence.wide n Try.prog 11 #[.pointer (some ⟨L.x, 0, none⟩)] w fun e W' => ∃ v, e = .returned v ∧ W'.ownsRow w.heap.size 49 3 v (heldFrom f 0).length (flatX (heldFrom f 0)) ∧ Below w.heap.size w W' := by
  have h1 : 1 ≤ n := by omega
  obtain ⟨i0, hi, hz0, hz1, hz2⟩ := info_parts info49
  have hxt : (w.alloc (.cells #[.slice none 0 0] 35)).cell? ⟨L.x, 1, none⟩ = some (.pointer (some ⟨L.t, 0, none⟩)) := cell_at (hx.xb.push _) rfl
  refine callsIn_of_wp_marks Try.func11 rfl trivial ?_
  simp only [Try.ntmps11, List.size_toArray, List.length_cons, List.length_nil, Nat.reduceAdd, Nat.reduceSub, Array.replicate_succ, Array.replicate_zero, List.push_toArray, List.append_toArray, List.nil_append, List.cons_append]
  gi_wp2_with (refine ⟨trivial, ?_⟩; gi_at_call 37; refine (all_in (n - 1) _ _).mono ?_; rintro e w' ⟨rfl, rfl⟩)
  have bO := Boxed.new w 35 (.slice none 0 0)
  have bN := Boxed.new (w.alloc (.cells #[.slice none 0 0] 35)) 71 (.pointer (some ⟨L.t, 0, none⟩))
  rw [World.size_alloc] at bN
  have hB0 : Below w.heap.size w ((w.alloc (.cells #[.slice none 0 0] 35)).alloc (.cells #[.pointer (some ⟨L.t, 0, none⟩)] 71)) := ((Below.refl _ w).alloc (Nat.le_refl _) _).alloc (by simp) _
  have hlt := hx.tab.lt
  obtain ⟨W0, hW0⟩ : ∃ W0, ((w.alloc (.cells #[.slice none 0 0] 35)).alloc (.cells #[.pointer (some ⟨L.t, 0, none⟩)] 71)) = W0 := ⟨_, rfl⟩
  have hsz : W0.heap.size = w.heap.size + 2 := by rw [← hW0]; simp
  rw [hW0] at bN hB0 ⊢
  refine wpIn_rangeFunc_ownH (F := Fence.wide) rfl h1 (gf := 58) (lb := #[.pointer (some ⟨w.heap.size + 1, 0, none⟩)]) rfl trivial (enters_of Try.func58 (by kernel_rfl) rfl)
    (all_stops (n - 1) (by omega) (w.heap.size + 1) w.heap.size L.t L.S f W0 (by omega) (by omega) bN.cell (hx.tab.only (below_only hB0) (fun b hb => by rcases hb with rfl | rfl <;> omega)) hlt.1 hlt.2)
    (fun h k => ⟨h.1.trans k.1, k.2.trans h.2⟩) (fun W l o o' hl ho hc hw => ⟨belowK_b (w := W0) (by omega) W l o o' hl ho hc hw, World.putObj_heap_other (by omega)⟩) (Below.refl _ _) (fun _ => rfl)
    (fun pre W => (∃ v, Boxed W w.heap.size 35 v ∧ W.ownsRow w.heap.size 49 3 v pre.length (flatX pre) ∧ True) ∧ Boxed W (w.heap.size + 1) 71 (.pointer (some ⟨L.t, 0, none⟩)) ∧ Below w.heap.size w W)
    (fun _ _ _ => False)
    (OwnFrom.and (Own.from (holdsRow_own w.heap.size w.heap.size 35 49 3 (fun pre => pre.length) (fun pre => flatX pre) (fun _ _ => True)) _) (OwnFrom.and (Own.from (boxed_own _ _ (fun _ => _)) _) (ownFrom_below (Nat.le_refl _) (by omega))))
    (fun _ _ _ _ _ hs _ _ => hs)
    ⟨⟨_, by rw [← hW0]; exact bO.alloc _, World.ownsRow_nil _ _ _ _, trivial⟩, bN, hB0⟩
    (fun x a' W => ∃ Bx, w.heap.size + 1 < Bx ∧ W.heap[Bx]? = some (.cells (extV x.2).toArray 49 (0, 0)) ∧ a' = { tmps := #[.pointer (some ⟨L.x, 0, none⟩), undef, .slice none 0 0, .pointer (some ⟨w.heap.size, 0, none⟩), undef, .pointer (some ⟨Bx, 0, none⟩), .pointer (some ⟨L.x, 0, none⟩), .pointer (some ⟨L.x, 0, none⟩), .pointer (some ⟨L.x, 1, none⟩), .pointer (some ⟨L.t, 0, none⟩), .func (.func 58) #[] #[.pointer (some ⟨w.heap.size + 1, 0, none⟩)], .int .i64 (x.1 : Int), .agg (extV x.2).toArray, undef, undef, undef, undef, undef], defers := [] })
    ?Ax ?assign ?body ?done ?stop
  case Ax =>
    rintro x a' ⟨⟩ W W' row ⟨Bx, h1, h2, h3⟩ hg hr
    refine ⟨Bx, h1, ?_, h3⟩
    rw [hg.block Bx (lt_of_get h2) (fun e => ?_), h2]
    obtain ⟨_, o, ho, hc⟩ := hr Bx e.symm
    rw [h2] at ho; cases ho; cases hc
  case assign =>
    rintro l pre x W K ⟨⟨v, hv, hrow, -⟩, hN, hB⟩ hK
    have hK2 := hN.cell
    simp only [encX, extV]
    gi_wp2
    refine hK _ _ ((KeepsOthers.alloc _ _).from _) ⟨(Below.refl _ W).alloc hB.size _, ?_⟩ ⟨⟨v, hv.alloc _, hrow.alloc _, trivial⟩, hN.alloc _, hB.alloc hB.size _⟩ ⟨W.heap.size, hN.lt, World.alloc_heap_new W _, rfl⟩
    exact ((Below.refl W.heap.size W).alloc (Nat.le_refl _) _).block _ hN.lt
  case body =>
    rintro l pre x a' W hl ⟨r, hr⟩ ⟨⟨v, hv, hrow, -⟩, hN, hB⟩ ⟨Bx, hBx, bX, rfl⟩ hlt'
    have hc := hv.cell
    have hx0 : W.cell? ⟨Bx, 0, none⟩ = some (.int .i64 x.2.num) := by simp [World.cell?, bX, extV]
    have hx1 : W.cell? ⟨Bx, 0 + 1, none⟩ = some (.int .i64 x.2.ser) := by simp [World.cell?, bX, extV]
    have hx2 : W.cell? ⟨Bx, 0 + 2, none⟩ = some (.int .i64 x.2.holds) := by simp [World.cell?, bX, extV]
    have hx1' : W.cell? ⟨Bx, 1, none⟩ = some (.int .i64 x.2.ser) := hx1
    have hx2' : W.cell? ⟨Bx, 2, none⟩ = some (.int .i64 x.2.holds) := hx2
    simp only [extV]
    gi_wp2_with (gi_at_builtin; refine wpListIn_append_own _ rfl _ _ 35 rfl w.heap.size 49 i0 (.agg #[.int .i64 0, .int .i64 0, .int .i64 0]) 3 24 Try.underlying35 hi hz0 hz1 hz2 rfl (by decide) _ _ _ rfl (hrow.alloc _) ⟨W.heap.size, 0, none⟩ 1 1 [.int .i64 x.2.num, .int .i64 x.2.ser, .int .i64 x.2.holds] rfl rfl (cells_new W _ 49) (by simp [Value.oneCell']) (maxLen_33 hlt') (by omega) (by have := hB.size; simp; omega) ?_; intro v' w1 hown' hgrow _; obtain ⟨g', cap', rfl⟩ := ownsRow_succ hown'; obtain ⟨hv1, hv2, hr2, hk2, hb2⟩ := hv.appended (by decide) hrow hB.size (Nat.le_refl _) hown' hgrow; have hc1 := hv1.cell; have hf1 := hv1.frozen; have hN1 := (hN.alloc (.cells #[.int .i64 x.2.num, .int .i64 x.2.ser, .int .i64 x.2.holds] 49)).kept hgrow (hN.not_row (by decide) hrow); have hN2 := hN1.other (show w.heap.size + 1 ≠ w.heap.size by omega) (.slice (some ⟨g', 0, none⟩) (pre.length + 1) cap'))
    refine ⟨hk2.from _, ⟨hb2, hN2.trans hN.symm⟩, ⟨_, hv2, ?_, trivial⟩, hN2, hB.trans hb2⟩
    simpa [flatX, extV] using hr2
  case done =>
    rintro D ys W hD rfl ⟨⟨v, hv, hrow, -⟩, hN, hB⟩ hK
    have hc := hv.cell
    gi_wp2
    refine ⟨by simp, .inl ⟨_, _, rfl, run_takeDeferred hK, ?_⟩⟩
    exact ⟨_, results_tmp rfl _ _ _, v, rfl, ownsRow_putObj hrow _ hK rfl, hB.trans (belowK_b (w := w) (Nat.le_refl _) W D _ _ (by omega) hK rfl rfl)⟩
  case stop =>
    rintro D c pre W _ _ h _
    exact h.elim

end Go.Proofs.Ytfijmoofdafoiaa
