/-
  The statement ExtentQuietUptoSaid: the row's step over the walk.
-/
import Derived.Test.YtfijmoofdafoiaaAr
import Derived.Test.YtfijmoofdafoiaaPBulk
set_option linter.unusedVariables false
namespace Go.Proofs.Ytfijmoofdafoiaa
open Go.ChangeShapes Go.WideShapes Go.ChangeAt Go.RowKit

theorem quiet_calls {p0 p1 p2 : Option Addr} {l0 l1 : List Int} {l2 : List Bool} {c0 c1 c2 : Nat} (W : World) (h0 : Am.RAt W.heap p0 (Am.intV l0)) (h1 : Am.RAt W.heap p1 (Am.intV l1)) (h2 : Am.RAt W.heap p2 (l2.map .bool))
    (hl0 : l0.length ≤ 1048576) (hl1 : l1.length ≤ 1048576) (hl2 : l2.length ≤ 1048576) (hc1 : l1.length ≤ c1) :
    Calls Try.prog 5 #[.slice p0 l0.length c0, .slice p1 l1.length c1, .slice p2 l2.length c2] W fun e W' => e = .returned (.bool true) ∧ Below W.heap.size W W' := by
  have hr : Am.Run tc.P 5 #[.slice p0 l0.length c0, .slice p1 l1.length c1, .slice p2 l2.length c2] W.heap (fun v h' => v = .bool true ∧ Am.Only (fun _ => False) W.heap h') := Am.quiet_spec h0 h1 h2 hl0 hl1 hl2 hc1 fun h' ho => ⟨rfl, ho⟩
  refine Calls.mono (hr W rfl) ?_
  rintro e W' ⟨v, rfl, hs, rfl, ho⟩
  exact ⟨rfl, below_of hs ho⟩

set_option maxRecDepth 100000 in
theorem quiet_lifted (os : Os) (started : os.Started) (H : Type) (enc : TypeId × Value → H) (F : Stop.Interp) :
    ReturnsInHanded {} Try.checked os 5 .any ((Rows.OpenSpec.upto Rows.extentQuietSpec).pre6 enc Try.prog Try.f5 Rows.extentQuietUptoRow.domain false) (((Rows.OpenSpec.upto Rows.extentQuietSpec).at F).post enc Try.prog Try.f5 false true false false) := by
  refine returnsInHanded_of_cond (C := Try.checked) (s := Rows.OpenSpec.upto Rows.extentQuietSpec) (k := Rows.uptoSmall) rfl own started (by kernel_rfl) Try.func5
    (OpenSpec.witness (enc := enc) (C := Try.checked) (s := Rows.OpenSpec.upto Rows.extentQuietSpec) (k := Rows.uptoSmall) rfl false ⟨#[], #[.slice none 0 0, .slice none 0 0, .slice none 0 0], []⟩ 8 (by kernel_rfl) (by kernel_rfl) (by kernel_rfl)
      (x := ([.nil, .nil, .nil], [], [])) (by kernel_rfl) rfl (by kernel_rfl)) ?_
  intro W base args ds gs before hval0 hW _ hk _
  have hkb := bulk_bound hk
  have hval : ∀ (j : Nat) t v, Try.f5.params[j]? = some t → args[j]? = some v → Value.okWide Try.prog W .any base t v := hval0
  have hW' := hW
  obtain ⟨p, q, hA0, hV, rfl, hfz, hnd⟩ := hW
  have hA : DataW.TrodAll enc Try.prog W 0 (fun _ => true) true Try.f5.params.toList args.toList ds p := hA0
  rw [Try.params5] at hA hval
  obtain ⟨v0, vs0, d0, ds0, p0, q0, hargs, rfl, rfl, h0, r0⟩ := trodAll_cons hA
  obtain ⟨v1, vs1, d1, ds1, p1, q1, rfl, rfl, rfl, h1, r1⟩ := trodAll_cons r0
  obtain ⟨v2, vs2, d2, ds2, p2, q2, rfl, rfl, rfl, h2, r2⟩ := trodAll_cons r1
  obtain ⟨rfl, rfl, rfl⟩ := trodAll_nil r2
  obtain rfl : args = #[v0, v1, v2] := by cases args; simp_all
  obtain ⟨rfl, rfl⟩ := trodVars_none hV
  have hlt : ∀ x ∈ p0 ++ (p1 ++ (p2 ++ [])) ++ [], x.block < W.heap.size := fun x hx => by simpa using hW'.lt x hx
  obtain ⟨a0, l0, c0, rfl, hr0, hb0, -⟩ := open_rints Try.underlying22 Try.underlying3 (by kernel_rfl) (hval 0 22 v0 rfl rfl) h0
  obtain ⟨a1, l1, c1, rfl, hr1, hb1, hle1⟩ := open_rints Try.underlying22 Try.underlying3 (by kernel_rfl) (hval 1 22 v1 rfl rfl) h1
  obtain ⟨a2, l2, c2, rfl, hr2, hb2, -⟩ := open_rbools Try.underlying52 Try.underlying4 (by kernel_rfl) (hval 2 52 v2 rfl rfl) h2
  clear hA0 hval0
  simp only [Rows.uptoBulkAll, List.append_nil, List.cons_append, List.nil_append] at hkb
  refine (quiet_calls W hr0 hr1 hr2 (by omega) (by omega) (by omega) hle1).mono fun e W' ⟨he, bel⟩ => ?_
  subst he
  refine ⟨_, rfl, ?_⟩
  refine ⟨_, _, _, [], p0 ++ (p1 ++ (p2 ++ [])), [], hW', trodAll_cons_mk (shut_bool Try.underlying4 _) trodAll_mk0,
    trodAll_cons_mk (Below.trod laid (by kernel_rfl) (of_decide_eq_true (by kernel_rfl)) h0 bel fun x hx => hlt x (by simp [hx])) (trodAll_cons_mk (Below.trod laid (by kernel_rfl) (of_decide_eq_true (by kernel_rfl)) h1 bel fun x hx => hlt x (by simp [hx]))
      (trodAll_cons_mk (Below.trod laid (by kernel_rfl) (of_decide_eq_true (by kernel_rfl)) h2 bel fun x hx => hlt x (by simp [hx])) trodAll_mk0)), rfl, bel.frame _, fun h => by cases h⟩

theorem extentQuiet_holds : Rows.ExtentQuietUptoSaid :=
  OpenClaim.holds_of_cond 5 Try.f5 rfl rfl rfl rfl rfl rfl rfl ⟨rfl, rfl, rfl, rfl, rfl⟩ rfl rfl rfl rfl rfl (by kernel_rfl) Try.func5 (by kernel_rfl)
    (of_decide_eq_true (by kernel_rfl)) (by unfold Func.isWrapper; first | (rw [if_pos (by decide +kernel)]; kernel_rfl) | (rw [if_neg (by decide +kernel)]; exact ⟨rfl, rfl⟩))
    (fun os started H enc _ F => quiet_lifted os started H enc F)

#print axioms extentQuiet_holds

end Go.Proofs.Ytfijmoofdafoiaa
