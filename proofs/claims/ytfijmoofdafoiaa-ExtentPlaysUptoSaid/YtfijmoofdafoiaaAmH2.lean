/-
  Slices that own their block from its first cell, and what an append does to them.
-/
import Derived.Test.YtfijmoofdafoiaaAmH
set_option linter.unusedSimpArgs false
set_option linter.unusedVariables false
namespace Go.Proofs.Ytfijmoofdafoiaa
open Go
namespace Am

variable {S S' : Nat → Prop} {h h' h'' : Hp}

/-- A slice of l elements of sz cells, its block all its own. -/
def Buf (h : Hp) (sz : Nat) (p : Option Addr) (l cap : Nat) (xs : List Value) : Prop :=
  match p with
  | none => xs = [] ∧ l = 0 ∧ cap = 0
  | some a => ∃ b cs, a = ⟨b, 0, none⟩ ∧ Blk h b cs ∧ cs.size = cap * sz ∧ At cs 0 xs ∧ xs.length = l * sz ∧ l ≤ cap

theorem Buf.nil (h : Hp) (sz : Nat) : Buf h sz none 0 0 [] := ⟨rfl, rfl, rfl⟩
theorem Buf.only {sz l cap : Nat} {p : Option Addr} {xs : List Value} (hb : Buf h sz p l cap xs) (ho : Only S h h') (hn : Off p S) : Buf h' sz p l cap xs := by
  cases p with
  | none => exact hb
  | some a => obtain ⟨b, cs, rfl, hb, r⟩ := hb; exact ⟨b, cs, rfl, hb.only ho (hn _ rfl), r⟩
theorem Buf.slAt {sz l cap : Nat} {p : Option Addr} {xs : List Value} (hb : Buf h sz p l cap xs) : SlAt h p xs := by
  cases p with
  | none => exact hb.1
  | some a => obtain ⟨b, cs, rfl, hb, hs, ha, hx, hl⟩ := hb; exact ⟨b, 0, cs, rfl, hb, ha, by rw [hs, hx]; simpa using Nat.mul_le_mul_right _ hl⟩
theorem Buf.lt {sz l cap b : Nat} {xs : List Value} (hb : Buf h sz (some ⟨b, 0, none⟩) l cap xs) : b < h.size := by
  obtain ⟨b', cs, e, hb, -⟩ := hb; injection e with e; subst e; exact hb.lt
theorem Buf.len {sz l cap : Nat} {p : Option Addr} {xs : List Value} (hb : Buf h sz p l cap xs) : xs.length = l * sz := by
  cases p with
  | none => obtain ⟨rfl, rfl, -⟩ := hb; simp
  | some a => obtain ⟨b, cs, rfl, hb, hs, ha, hx, hl⟩ := hb; exact hx

theorem zeroCells_size (zero : Array Value) (n : Nat) : (Builtin.zeroCells zero n).size = n * zero.size := by simp [Builtin.zeroCells]

theorem apnd_buf {elem sz bytes l cap m c : Nat} {zero : Array Value} {p q : Option Addr} {xs ys : List Value} {Q : Value → Hp → Prop} (hz : zero.size = sz)
    (hb : Buf h sz p l cap xs) (hq : SlAt h q ys) (hy : ys.length = m * sz) (hz0 : sz ≠ 0) (hy1 : ∀ v ∈ ys, v.oneCell' = true) (hbd : 2 * (l + m) * bytes ≤ 2 ^ 48) (hby : bytes ≠ 0)
    (k : ∀ p' cap' h', Only (fun b => p = some ⟨b, 0, none⟩) h h' → Buf h' sz p' (l + m) cap' (xs ++ ys) → (p' = p ∨ ∃ b, p' = some ⟨b, 0, none⟩ ∧ h.size ≤ b) → Q (.slice p' (l + m) cap') h') :
    apnd elem sz bytes zero (.slice p l cap) (.slice q m c) h Q := by
  simp only [apnd, onSl]
  refine ⟨ys.toArray, ?_, ?_, ?_⟩
  · have := hq.row hy
    cases q with
    | none =>
      simp only [SlAt] at hq; subst hq
      refine ⟨rfl, ?_⟩
      rcases Nat.mul_eq_zero.1 this with h0 | h0
      · exact h0
      · exact absurd h0 hz0
    | some a => exact this
  · intro hle
    cases p with
    | none =>
      obtain ⟨rfl, rfl, rfl⟩ := hb
      have hm : m = 0 := by omega
      subst hm
      have : ys = [] := List.length_eq_zero_iff.1 (by simpa using hy)
      subst this
      exact k none 0 h (Only.refl _ _) ⟨rfl, rfl, rfl⟩ (.inl rfl)
    | some a =>
      obtain ⟨b, cs, rfl, hblk, hs, ha, hx, hl⟩ := hb
      simp only [add_mk, Nat.zero_add]
      have hroom : l * sz + ys.toArray.size ≤ cs.size := by
        rw [hs, List.size_toArray, hy, ← Nat.add_mul]; exact Nat.mul_le_mul_right _ hle
      refine st_at hblk hroom (fun v hv => hy1 v (by simpa using hv)) (k _ _ _ ((Only.refl _ _).set (.inl rfl)) ⟨b, _, rfl, hblk.setB, by rw [splice_size hroom, hs], ?_, by rw [List.length_append, hx, hy, ← Nat.add_mul], hle⟩ (.inl rfl))
      refine (ha.splice_off hroom (.inl (by omega))).append ?_
      have := At.splice_self hroom (vs := ys.toArray)
      rw [Nat.zero_add, hx]; simpa using this
  · intro hgt
    refine ⟨⟨?_, hby⟩, ?_⟩
    · exact Nat.le_trans (Nat.mul_le_mul_right _ (nextslicecap_le hgt)) hbd
    · refine ⟨xs.toArray, ?_, ?_⟩
      · have := hb.slAt.row hb.len
        cases p with
        | none => obtain ⟨rfl, rfl, rfl⟩ := hb; exact ⟨rfl, rfl⟩
        | some a => exact this
      · intro cap' hc
        refine k _ _ _ ((Only.refl _ _).push _) ⟨h.size, _, rfl, Blk.new _ _ _, ?_, ?_, by rw [List.length_append, hb.len, hy, ← Nat.add_mul], hc⟩ (.inr ⟨_, rfl, Nat.le_refl _⟩)
        · rw [Array.size_append, Array.size_append, zeroCells_size, hz, List.size_toArray, List.size_toArray, hb.len, hy, ← Nat.add_mul, ← Nat.add_mul]
          congr 1; omega
        · intro j x hj
          have hj' := (List.getElem?_eq_some_iff.1 hj).1
          rw [Nat.zero_add, Array.getElem?_append_left (by rw [Array.size_append, List.size_toArray, List.size_toArray]; simpa using hj')]
          rw [show xs.toArray ++ ys.toArray = (xs ++ ys).toArray from by simp, List.getElem?_toArray]; exact hj

/-- Row i of rows of n cells. -/
theorem At.flat {α : Type} {cs : Array Value} {n : Nat} {f : α → List Value} : ∀ {l : List α} {o : Nat}, (∀ e ∈ l, (f e).length = n) → At cs o (l.flatMap f) → ∀ {i : Nat} {e : α}, l[i]? = some e → At cs (o + i * n) (f e) := by
  intro l
  induction l with
  | nil => intro o _ _ i e hi; simp at hi
  | cons x r ih =>
    intro o hl ha i e hi
    rw [List.flatMap_cons] at ha
    cases i with
    | zero => simp at hi; subst hi; simpa using ha.left
    | succ i =>
      have := ih (fun e he => hl e (List.mem_cons_of_mem _ he)) ha.right (i := i) (e := e) (by simpa using hi)
      rw [hl x (List.mem_cons_self ..)] at this
      rw [show o + (i + 1) * n = o + n + i * n from by rw [Nat.add_mul]; omega]; exact this

end Am
end Go.Proofs.Ytfijmoofdafoiaa
