/-
  The statement ExtentApartSaid: the row's step over the walk.
-/
import Derived.Test.YtfijmoofdafoiaaRows
import Derived.Test.YtfijmoofdafoiaaAp
import Derived.ProofKit
import Derived.OpenShut
import Derived.JoinedCond
set_option linter.unusedVariables false
namespace Go.Proofs.Ytfijmoofdafoiaa
open Go.ChangeShapes Go.WideShapes Go.ChangeAt Go.RowKit

theorem own : ownKnob Try.prog.godebug = none := by kernel_rfl

theorem below_of {W W' : World} (hs : Am.Stay W W') (ho : Am.Only (fun _ => False) W.heap W'.heap) : Below W.heap.size W W' :=
  ⟨hs.2.1, hs.1, hs.2.2, ho.1, fun k hk => ho.2 k hk id⟩

theorem apart_calls (n m : Int) (b : UInt8) (W : World) : Calls Try.prog 4 #[.int .i64 n, .int .i64 m, .int .u8 (b.toNat : Int)] W fun e W' => e = .returned (.bool true) ∧ Below W.heap.size W W' := by
  have hr : Am.Run tc.P 4 #[.int .i64 n, .int .i64 m, .int .u8 (b.toNat : Int)] W.heap (fun v h' => v = .bool true ∧ Am.Only (fun _ => False) W.heap h') := Am.apart_spec fun h' ho => ⟨rfl, ho⟩
  refine Calls.mono (hr W rfl) ?_
  rintro e W' ⟨v, rfl, hs, rfl, ho⟩
  exact ⟨rfl, below_of hs ho⟩

set_option maxRecDepth 100000 in
theorem apart_lifted (os : Os) (started : os.Started) (H : Type) (enc : TypeId × Value → H) :
    ReturnsInHanded {} Try.checked os 4 .any (Rows.extentApartSpec.pre6 enc Try.prog Try.f4 Rows.extentApartRow.domain false) (Rows.extentApartSpec.post enc Try.prog Try.f4 false true false false) := by
  refine returnsInHanded_of_change (C := Try.checked) own started (by kernel_rfl) Try.func4
    (ChangeSpec.witness6 (enc := enc) (C := Try.checked) false ⟨#[], #[.int .i64 0, .int .i64 0, .int .u8 0], []⟩ 8 (by kernel_rfl) (by kernel_rfl) (by kernel_rfl) (by kernel_rfl)) ?_
  intro W base args ds gs before hval0 hW hcnd _
  have hval : ∀ (j : Nat) t v, Try.f4.params[j]? = some t → args[j]? = some v → Value.okWide Try.prog W .any base t v := hval0
  have hW' := hW
  obtain ⟨p, q, hA0, hV, rfl, hfz, hnd⟩ := hW
  have hA : DataW.TrodAll enc Try.prog W 0 (fun _ => true) true Try.f4.params.toList args.toList ds p := hA0
  rw [Try.params4] at hA hval
  obtain ⟨v0, vs0, d0, ds0, p0, q0, hargs, rfl, rfl, h0, r0⟩ := trodAll_cons hA
  obtain ⟨v1, vs1, d1, ds1, p1, q1, rfl, rfl, rfl, h1, r1⟩ := trodAll_cons r0
  obtain ⟨v2, vs2, d2, ds2, p2, q2, rfl, rfl, rfl, h2, r2⟩ := trodAll_cons r1
  obtain ⟨rfl, rfl, rfl⟩ := trodAll_nil r2
  obtain rfl : args = #[v0, v1, v2] := by cases args; simp_all
  obtain ⟨rfl, rfl⟩ := trodVars_none hV
  obtain ⟨a0, rfl, rfl, rfl, w0⟩ := open_int Try.underlying3 (hval 0 3 v0 rfl rfl) h0
  obtain ⟨a1, rfl, rfl, rfl, w1⟩ := open_int Try.underlying3 (hval 1 3 v1 rfl rfl) h1
  obtain ⟨a2, rfl, rfl, rfl, w2⟩ := open_int Try.underlying5 (hval 2 5 v2 rfl rfl) h2
  clear hA0 hval0
  simp only [List.append_nil] at hW'
  have hx : 0 ≤ a2 ∧ a2 ≤ 255 := by simpa [Lit.wf, IntKind.min, IntKind.max, IntKind.signed, IntKind.bits] using w2
  obtain ⟨b, rfl⟩ : ∃ b : UInt8, a2 = (b.toNat : Int) := by
    obtain ⟨b, hb⟩ := Am.u8_of (n := a2)
    refine ⟨b, ?_⟩
    rw [← hb, IntKind.wrap_u8]; omega
  refine (apart_calls a0 a1 b W).mono fun e W' ⟨he, bel⟩ => ?_
  subst he
  refine ⟨_, rfl, ?_⟩
  exact ⟨_, _, _, [], [], [], hW', trodAll_cons_mk (shut_bool Try.underlying4 _) trodAll_mk0, trodAll_cons_mk (shut_int Try.underlying3 w0) (trodAll_cons_mk (shut_int Try.underlying3 w1) (trodAll_cons_mk (shut_int Try.underlying5 w2) trodAll_mk0)), rfl, bel.frame _, fun h => by cases h⟩

theorem extentApart_holds : Rows.ExtentApartSaid :=
  OpenClaim.holds_of_wide 4 Try.f4 rfl rfl rfl rfl rfl rfl rfl ⟨rfl, rfl, rfl, rfl, rfl⟩ rfl rfl rfl rfl rfl (by kernel_rfl) Try.func4 (by kernel_rfl)
    (of_decide_eq_true (by kernel_rfl)) (by unfold Func.isWrapper; first | (rw [if_pos (by decide +kernel)]; kernel_rfl) | (rw [if_neg (by decide +kernel)]; exact ⟨rfl, rfl⟩))
    (fun os started H enc _ => apart_lifted os started H enc)

#print axioms extentApart_holds

end Go.Proofs.Ytfijmoofdafoiaa
