/-
  The claimed extents in their order, and the search for the next one.
-/
import Derived.Test.YtfijmoofdafoiaaAmS
set_option linter.unusedSimpArgs false
set_option linter.unusedVariables false
set_option maxRecDepth 100000
namespace Go.Proofs.Ytfijmoofdafoiaa
open Go
namespace Am

variable {T T' : Nat → Prop} {h h' h'' : Hp} {t S : Nat} {f f' : Nat → Option ExtS} {K : Value → Hp → Prop}

/-- What is claimed from place k on, rising; m places are looked at. -/
def heldGo (f : Nat → Option ExtS) : Nat → Nat → List (Nat × ExtS)
  | 0, _ => []
  | m + 1, k => match f k with | some x => (k, x) :: heldGo f m (k + 1) | none => heldGo f m (k + 1)

def heldFrom (f : Nat → Option ExtS) (k : Nat) : List (Nat × ExtS) := heldGo f (32 - k) k

theorem heldFrom_some {k : Nat} {x : ExtS} (hk : k < 32) (hf : f k = some x) : heldFrom f k = (k, x) :: heldFrom f (k + 1) := by
  unfold heldFrom
  rw [show 32 - k = (32 - (k + 1)) + 1 from by omega]
  simp only [heldGo, hf]
theorem heldFrom_none {k : Nat} (hk : k < 32) (hf : f k = none) : heldFrom f k = heldFrom f (k + 1) := by
  unfold heldFrom
  rw [show 32 - k = (32 - (k + 1)) + 1 from by omega]
  simp only [heldGo, hf]
theorem heldFrom_end {k : Nat} (hk : 32 ≤ k) : heldFrom f k = [] := by
  unfold heldFrom; rw [show 32 - k = 0 from by omega]; rfl
theorem heldGo_le (f : Nat → Option ExtS) : ∀ m k, (heldGo f m k).length ≤ m := by
  intro m
  induction m with
  | zero => intro k; exact Nat.le_refl _
  | succ m ih => intro k; have := ih (k + 1); simp only [heldGo]; split <;> simp <;> omega

theorem next_spec {k : Nat} (ht : TabAt h t S f) (hk : k ≤ 32) (k0 : heldFrom f k = [] → K (.int .i64 (-1)) h)
    (k1 : ∀ j x, k ≤ j → j < 32 → f j = some x → heldFrom f k = (j, x) :: heldFrom f (j + 1) → K (.int .i64 (j : Nat)) h) :
    Run tc.P 59 #[.pointer (some ⟨t, 0, none⟩), .int .i64 k] h K := by
  apply L59_run; unfold L59; simp only [onPtr, add_mk, Nat.zero_add]
  refine ⟨fun st h' => h' = h ∧ ∃ j : Nat, st.1 = (j : Int) ∧ k ≤ j ∧ j ≤ 32 ∧ heldFrom f j = heldFrom f k, fun st _ => (32 - st.1).toNat, ⟨rfl, k, ?_, Nat.le_refl _, hk, rfl⟩, ?_⟩
  · show (if (k : Int) < 0 then 0 else (k : Int)) = k
    rw [if_neg (by omega)]
  rintro ⟨i, ⟨⟩⟩ h' ⟨rfl, j, hj, hkj, hj32, hh⟩
  simp only at hj ⊢
  subst hj
  obtain ⟨cs, c, l, hb⟩ := ht
  refine ldS_at hb.tb rfl (bsel_dec (fun h0 => ?_) fun h0 => ?_)
  · have hj : j < 32 := by omega
    refine ldS_at hb.tb rfl ⟨⟨by omega, h0⟩, ?_⟩
    simp only [onO, add_mk, Nat.zero_add, Nat.add_zero, Int.toNat_natCast]
    refine ldB_at hb.sb (hb.rows j hj).flag (bsel_b (fun h1 => ?_) fun h1 => ?_)
    · obtain ⟨x, hx⟩ := Option.isSome_iff_exists.1 h1
      exact k1 j x hkj hj hx (by rw [← hh, heldFrom_some hj hx])
    · have hf : f j = none := by simpa using h1
      refine ⟨⟨trivial, j + 1, ?_, by omega, by omega, ?_⟩, ?_⟩
      · rw [w64 (by omega) (by omega)]; rfl
      · rw [← hh, heldFrom_none hj hf]
      · rw [w64 (by omega) (by omega)]; omega
  · have : j = 32 := by omega
    subst this
    exact k0 (by rw [← hh]; exact heldFrom_end (Nat.le_refl _))

end Am
end Go.Proofs.Ytfijmoofdafoiaa
