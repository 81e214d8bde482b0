/-
  The zero values of the types that the code makes, and small laws of choices and bytes.
-/
import Derived.Test.YtfijmoofdafoiaaAmG
import Derived.Test.YtfijmoofdafoiaaAmH
import Derived.KernelRfl
set_option linter.unusedSimpArgs false
set_option linter.unusedVariables false
set_option maxRecDepth 100000
namespace Go.Proofs.Ytfijmoofdafoiaa
open Go
namespace Am

theorem w64 {n : Int} (h0 : -9223372036854775808 ≤ n) (h1 : n ≤ 9223372036854775807) : IntKind.i64.wrap n = n := by
  rw [IntKind.wrap_i64]; omega

section sel
variable {p : Prop} [Decidable p] {A B : Prop} {b : Bool}
theorem bsel_dec (ha : p → A) (hb : ¬ p → B) : bsel (decide p) A B := by
  by_cases h : p
  · rw [decide_eq_true h]; exact ha h
  · rw [decide_eq_false h]; exact hb h
theorem bsel_ndec (ha : ¬ p → A) (hb : p → B) : bsel (!decide p) A B := by
  by_cases h : p
  · rw [decide_eq_true h]; exact hb h
  · rw [decide_eq_false h]; exact ha h
theorem bsel_b (ha : b = true → A) (hb : b = false → B) : bsel b A B := by
  cases b
  · exact hb rfl
  · exact ha rfl
theorem bsel_nb (ha : b = false → A) (hb : b = true → B) : bsel (!b) A B := by
  cases b
  · exact ha rfl
  · exact hb rfl
end sel

def byteV (b : UInt8) : Value := .int .u8 (b.toNat : Int)
theorem byteV_one (b : UInt8) : (byteV b).oneCell' = true := rfl
def byV (l : List UInt8) : List Value := l.map byteV
theorem byV_length (l : List UInt8) : (byV l).length = l.length := by simp [byV]
theorem byV_one (l : List UInt8) : ∀ v ∈ byV l, v.oneCell' = true := by
  intro v hv; obtain ⟨b, -, rfl⟩ := List.mem_map.1 hv; rfl

/-! ### Zero values -/

def isZ8 (v : Value) : Bool := match v with | .int .u8 0 => true | _ => false

theorem split_of {l T : List Value} (hz : l.length = 131077) (ht : l.dropWhile isZ8 = T) (hT : T.length = 5) : l = List.replicate 131072 (byteV 0) ++ T := by
  have h := (List.takeWhile_append_dropWhile (p := isZ8) (l := l)).symm
  rw [ht] at h
  have hl : (l.takeWhile isZ8).length = 131072 := by
    have := congrArg List.length h
    rw [List.length_append, hz, hT] at this
    omega
  have hr : l.takeWhile isZ8 = List.replicate 131072 (byteV 0) := by
    rw [List.eq_replicate_iff]
    refine ⟨hl, fun v hv => ?_⟩
    have := List.all_eq_true.1 (List.all_takeWhile (p := isZ8) (l := l)) v hv
    unfold isZ8 at this
    split at this
    · rfl
    · cases this
  rw [← hr]; exact h

theorem z89_size : (zeroOf tc.P 89).size = 131077 := by kernel_rfl
theorem z89_tail : (zeroOf tc.P 89).toList.dropWhile isZ8 = [.slice none 0 0, .bool false, .int .i64 0, .bool false, .int .i64 0] := by kernel_rfl
theorem z89_split : (zeroOf tc.P 89).toList = List.replicate 131072 (byteV 0) ++ [.slice none 0 0, .bool false, .int .i64 0, .bool false, .int .i64 0] :=
  split_of ((Array.length_toList).trans z89_size) z89_tail rfl
theorem z49 : zeroOf tc.P 49 = #[.int .i64 0, .int .i64 0, .int .i64 0] := by kernel_rfl
theorem z108 : zeroOf tc.P 108 = #[.bool false, .int .i64 0, .int .i64 0, .int .i64 0] := by kernel_rfl
theorem z106 : zeroOf tc.P 106 = #[.slice none 0 0, .int .i64 0, .int .i64 0] := by kernel_rfl
theorem z5 : zeroOf tc.P 5 = #[.int .u8 0] := by kernel_rfl
theorem z3 : zeroOf tc.P 3 = #[.int .i64 0] := by kernel_rfl
theorem z4 : zeroOf tc.P 4 = #[.bool false] := by kernel_rfl
theorem z40 : zeroOf tc.P 40 = #[.slice none 0 0] := by kernel_rfl
theorem z93 : zeroOf tc.P 93 = (Value.int .i64 0 :: List.replicate 128 (.int .u8 0)).toArray := by kernel_rfl
theorem z28 : zeroOf tc.P 28 = (List.replicate 32 (Value.bool false)).toArray := by kernel_rfl
theorem z98 : (zeroOf tc.P 98).toList = [.slice none 0 0, .slice none 0 0, .int .i64 0, .bool false, .int .i64 0] := by kernel_rfl
theorem z100 : (zeroOf tc.P 100).toList = [.slice none 0 0, .pointer none] := by kernel_rfl

end Am
end Go.Proofs.Ytfijmoofdafoiaa
