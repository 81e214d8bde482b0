/-
  The list of the claimed extents, as a contract; how many there are.
-/
import Derived.Test.YtfijmoofdafoiaaAmU
set_option linter.unusedSimpArgs false
set_option linter.unusedVariables false
set_option maxRecDepth 100000
namespace Go.Proofs.Ytfijmoofdafoiaa
open Go Go.RowKit
namespace Am

variable {T T' : Nat → Prop} {h h' h'' : Hp} {L : Am.Loc} {B B' : Option Nat} {f f' : Nat → Option ExtS} {s s' : DSt} {d : Nat} {K : Value → Hp → Prop}

theorem list_spec (hx : XAt h L B f s) (k : ∀ h' p cap, Only (fun _ => False) h h' → Buf h' 3 p (heldFrom f 0).length cap (flatX (heldFrom f 0)) → Fresh h p → K (.slice p (heldFrom f 0).length cap) h') :
    Run tc.P 11 #[.pointer (some ⟨L.x, 0, none⟩)] h K := by
  intro w hw
  subst hw
  refine Calls.mono (callsIn_wide.1 (list_in 3 (Nat.le_refl _) w hx)) ?_
  rintro e W' ⟨v, rfl, ⟨hlen, hv⟩, hb⟩
  refine ⟨v, rfl, ⟨hb.tape, hb.os, hb.output⟩, ?_⟩
  have ho : Only (fun _ => False) w.heap W'.heap := ⟨hb.size, fun b hb' _ => hb.block b hb'⟩
  rcases hv with ⟨rfl, hn⟩ | ⟨g, cap, cur, rfl, hg, hc, hn, _, hs, ht⟩
  · have := k W'.heap none 0 ho ⟨List.length_eq_zero_iff.1 (by rw [hlen, hn]), hn, rfl⟩ (fun a ha => by cases ha)
    rw [hn] at this; exact this
  · refine k W'.heap _ cap ho ⟨g, cur, rfl, ⟨_, hc⟩, hs, ?_, hlen, hn⟩ (fun a ha => by injection ha with ha; subst ha; exact hg)
    intro j x hj
    rw [← ht] at hj
    rw [Nat.zero_add]
    rw [List.getElem?_take] at hj
    split at hj
    · simpa using hj
    · cases hj

/-- The flags of what is claimed. -/
def mineL (f : Nat → Option ExtS) : List Bool := (List.range 32).map fun i => (f i).isSome
theorem mineL_length (f : Nat → Option ExtS) : (mineL f).length = 32 := by simp [mineL]
theorem mineL_get {f : Nat → Option ExtS} {i : Nat} (hi : i < 32) : (mineL f)[i]? = some (f i).isSome := by
  simp [mineL, hi]
theorem heldGo_count (f : Nat → Option ExtS) : ∀ m k, (heldGo f m k).length = ((List.range' k m).map fun i => (f i).isSome).count true := by
  intro m
  induction m with
  | zero => intro k; rfl
  | succ m ih =>
    intro k
    simp only [heldGo, List.range'_succ, List.map_cons, List.count_cons]
    rw [← ih (k + 1)]
    cases hf : f k <;> simp
theorem held_count (f : Nat → Option ExtS) : (heldFrom f 0).length = (mineL f).count true := by
  have := heldGo_count f 32 0
  rw [show heldFrom f 0 = heldGo f 32 0 from rfl, this]
  unfold mineL; rw [List.range_eq_range']

theorem mineL_upd {n : Nat} {x : ExtS} (hn : n < 32) : ((mineL f).set n true) = mineL (upd f n (some x)) := by
  apply List.ext_getElem?
  intro i
  rw [List.getElem?_set]
  split
  · rename_i e; subst e; rw [mineL_length, if_pos hn, mineL_get hn]; simp [upd]
  · rename_i e
    by_cases hi : i < 32
    · rw [mineL_get hi, mineL_get hi]; simp [upd, Ne.symm e]
    · rw [List.getElem?_eq_none (by rw [mineL_length]; omega), List.getElem?_eq_none (by rw [mineL_length]; omega)]

end Am
end Go.Proofs.Ytfijmoofdafoiaa
