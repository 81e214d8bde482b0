/-
  Blocks of the heap: which stay, what stands in them, and how the small forms are met at a block that one knows.
-/
import Derived.Test.YtfijmoofdafoiaaAmB
import Derived.Laws.Append
set_option linter.unusedSimpArgs false
set_option linter.unusedVariables false
namespace Go.Proofs.Ytfijmoofdafoiaa
open Go
namespace Am

/-- Block g holds these cells, and may be written. -/
def Blk (h : Hp) (g : Nat) (cs : Array Value) : Prop := ∃ e, h[g]? = some (.cells cs e (0, 0))

/-- Blocks outside S that stood are as they were. -/
def Only (S : Nat → Prop) (h h' : Hp) : Prop := h.size ≤ h'.size ∧ ∀ b, b < h.size → ¬ S b → h'[b]? = h[b]?

variable {S S' : Nat → Prop} {h h' h'' : Hp} {g b o n : Nat} {cs vs : Array Value} {K : Hp → Prop}

theorem Blk.lt (hb : Blk h g cs) : g < h.size := by obtain ⟨e, he⟩ := hb; exact lt_of_get he
theorem Blk.inj {cs' : Array Value} (hb : Blk h g cs) (hb' : Blk h g cs') : cs = cs' := by
  obtain ⟨e, he⟩ := hb; obtain ⟨e', he'⟩ := hb'
  rw [he] at he'; injection he' with he'; injection he'
theorem setB_size (h : Hp) (g : Nat) (cs : Array Value) : (setB h g cs).size = h.size := by simp [setB]
theorem setB_ne (h : Hp) {g b : Nat} (cs : Array Value) (hn : b ≠ g) : (setB h g cs)[b]? = h[b]? := by
  simp only [setB, Array.getElem?_modify]; rw [if_neg (fun e => hn e.symm)]
theorem Blk.setB {cs' : Array Value} (hb : Blk h g cs) : Blk (setB h g cs') g cs' := by
  obtain ⟨e, he⟩ := hb
  exact ⟨e, by simp [Am.setB, Array.getElem?_modify, he]⟩
theorem Blk.ofSetB {cs' : Array Value} (hb : Blk h b cs) (hn : b ≠ g) : Blk (Am.setB h g cs') b cs := by
  obtain ⟨e, he⟩ := hb; exact ⟨e, by rw [setB_ne _ _ hn, he]⟩
theorem Blk.new (h : Hp) (cs : Array Value) (e : TypeId) : Blk (h.push (.cells cs e)) h.size cs := ⟨e, by simp⟩
theorem Blk.push (hb : Blk h b cs) (x : Obj) : Blk (h.push x) b cs := by
  obtain ⟨e, he⟩ := hb
  exact ⟨e, by rw [Array.getElem?_push]; rw [if_neg (by have := lt_of_get he; omega), he]⟩
theorem Blk.only (hb : Blk h g cs) (ho : Only S h h') (hn : ¬ S g) : Blk h' g cs := by
  obtain ⟨e, he⟩ := hb; exact ⟨e, by rw [ho.2 g (lt_of_get he) hn, he]⟩

theorem Only.refl (S : Nat → Prop) (h : Hp) : Only S h h := ⟨Nat.le_refl _, fun _ _ _ => rfl⟩
theorem Only.trans (h1 : Only S h h') (h2 : Only S' h' h'') (hs : ∀ b, b < h.size → S' b → S b) : Only S h h'' := by
  refine ⟨Nat.le_trans h1.1 h2.1, fun b hb hn => ?_⟩
  rw [h2.2 b (by have := h1.1; omega) (fun k => hn (hs b hb k)), h1.2 b hb hn]
theorem Only.mono (h1 : Only S h h') (hs : ∀ b, b < h.size → S b → S' b) : Only S' h h' := ⟨h1.1, fun b hb hn => h1.2 b hb fun k => hn (hs b hb k)⟩
theorem Only.push (ho : Only S h h') (x : Obj) : Only S h (h'.push x) := by
  refine ⟨by have := ho.1; simp; omega, fun b hb hn => ?_⟩
  rw [Array.getElem?_push, if_neg (by have := ho.1; omega), ho.2 b hb hn]
theorem Only.set (ho : Only S h h') (hg : S g ∨ h.size ≤ g) : Only S h (setB h' g cs) := by
  refine ⟨by rw [setB_size]; exact ho.1, fun b hb hn => ?_⟩
  rw [setB_ne _ _ (by rintro rfl; rcases hg with k | k; exact hn k; omega), ho.2 b hb hn]
theorem Only.keep (ho : Only (fun _ => False) h h') : Keep h h' := fun b hb => ho.2 b hb id

theorem Only.lt (ho : Only S h h') (hb : b < h.size) : b < h'.size := Nat.lt_of_lt_of_le hb ho.1

/-! ### Rows of a block -/

def At (cs : Array Value) (o : Nat) (xs : List Value) : Prop := ∀ j x, xs[j]? = some x → cs[o + j]? = some x

theorem At.nil (cs : Array Value) (o : Nat) : At cs o [] := fun j x hj => by simp at hj
theorem At.cons_iff {x : Value} {xs : List Value} : At cs o (x :: xs) ↔ cs[o]? = some x ∧ At cs (o + 1) xs := by
  constructor
  · intro ha
    refine ⟨ha 0 x rfl, fun j y hj => ?_⟩
    have := ha (j + 1) y (by simpa using hj)
    rw [← this]; congr 1; omega
  · rintro ⟨h0, h1⟩ j y hj
    cases j with
    | zero => simp at hj; subst hj; exact h0
    | succ j => have := h1 j y (by simpa using hj); rw [← this]; congr 1; omega
theorem At.le {xs : List Value} (ha : At cs o xs) (hx : xs ≠ []) : o + xs.length ≤ cs.size := by
  have hl : 0 < xs.length := List.length_pos_iff.2 hx
  have hj : xs[xs.length - 1]? = some xs[xs.length - 1] := List.getElem?_eq_getElem (by omega)
  have := (Array.getElem?_eq_some_iff.1 (ha _ _ hj)).1
  omega
theorem At.extract {xs : List Value} (ha : At cs o xs) : cs.extract o (o + xs.length) = xs.toArray := by
  by_cases hx : xs = []
  · subst hx; apply Array.ext <;> simp; omega
  have hle := ha.le hx
  apply Array.ext
  · simp; omega
  · intro i h1 h2
    have h2' : i < xs.length := by simpa using h2
    have := ha i _ (List.getElem?_eq_getElem h2')
    obtain ⟨_, h3⟩ := Array.getElem?_eq_some_iff.1 this
    simp only [Array.getElem_extract, List.getElem_toArray]; exact h3
theorem At.all (xs : List Value) : At xs.toArray 0 xs := fun j x hj => by simpa using hj
theorem At.append {xs ys : List Value} (hx : At cs o xs) (hy : At cs (o + xs.length) ys) : At cs o (xs ++ ys) := by
  intro j x hj
  rw [List.getElem?_append] at hj
  split at hj
  · exact hx j x hj
  · rename_i hl
    have := hy _ x hj; rw [← this]; congr 1; omega
theorem At.left {xs ys : List Value} (ha : At cs o (xs ++ ys)) : At cs o xs := fun j x hj => ha j x (by
  rw [List.getElem?_append_left (List.getElem?_eq_some_iff.1 hj).1]; exact hj)
theorem At.right {xs ys : List Value} (ha : At cs o (xs ++ ys)) : At cs (o + xs.length) ys := fun j x hj => by
  have := ha (xs.length + j) x (by rw [List.getElem?_append_right (by omega)]; simpa using hj)
  rw [← this]; congr 1; omega

theorem splice_size (hs : o + vs.size ≤ cs.size) : (splice cs o vs).size = cs.size := by
  simp [splice]; omega
theorem splice_get (hs : o + vs.size ≤ cs.size) (i : Nat) : (splice cs o vs)[i]? = if o ≤ i ∧ i < o + vs.size then vs[i - o]? else cs[i]? := by
  have ho : (cs.toList.take o).length = o := by simp; omega
  have hv : vs.toList.length = vs.size := by simp
  unfold splice
  rw [List.getElem?_toArray, List.append_assoc]
  by_cases h1 : i < o
  · rw [if_neg (by omega), List.getElem?_append_left (by omega), List.getElem?_take, if_pos h1]; simp
  · rw [List.getElem?_append_right (by omega), ho]
    by_cases h2 : i < o + vs.size
    · rw [if_pos ⟨by omega, h2⟩, List.getElem?_append_left (by omega)]; simp
    · rw [if_neg (by omega), List.getElem?_append_right (by omega), List.getElem?_drop, hv]
      rw [show o + vs.size + (i - o - vs.size) = i from by omega]; simp
theorem At.splice_self (hs : o + vs.size ≤ cs.size) : At (splice cs o vs) o vs.toList := by
  intro j x hj
  have hl : j < vs.size := by have := (List.getElem?_eq_some_iff.1 hj).1; simpa using this
  rw [splice_get hs, if_pos (by omega), show o + j - o = j from by omega]; simpa using hj
theorem At.splice_off {o' : Nat} {xs : List Value} (hs : o + vs.size ≤ cs.size) (ha : At cs o' xs) (hd : o' + xs.length ≤ o ∨ o + vs.size ≤ o') : At (splice cs o vs) o' xs := by
  intro j x hj
  have hl := (List.getElem?_eq_some_iff.1 hj).1
  rw [splice_get hs, if_neg (by omega)]; exact ha j x hj

/-! ### The small forms at a known block -/

theorem cell_at {v : Value} (hb : Blk h b cs) (hc : cs[o]? = some v) : cellH h ⟨b, o, none⟩ = some v := by
  obtain ⟨e, he⟩ := hb; simp [cellH, he, hc]
theorem row_at {xs : List Value} (hb : Blk h b cs) (ha : At cs o xs) (hn : xs.length = n) (hl : o + n ≤ cs.size) : rowH h ⟨b, o, none⟩ n = some xs.toArray := by
  obtain ⟨e, he⟩ := hb
  have := ha.extract
  by_cases h0 : n = 0
  · subst h0; obtain rfl := List.length_eq_zero_iff.1 hn; simp [rowH]
  simp only [rowH, if_neg h0, he, Option.isNone_none, Bool.true_and]
  rw [if_pos (by simpa using hl), ← hn, this]
theorem st_at (hb : Blk h b cs) (hs : o + vs.size ≤ cs.size) (h1 : ∀ v ∈ vs.toList, v.oneCell' = true) (k : K (setB h b (splice cs o vs))) : st h ⟨b, o, none⟩ vs K := by
  obtain ⟨e, he⟩ := hb; exact ⟨cs, e, he, rfl, hs, h1, k⟩
theorem ldI_at {k : IntKind} {m : Int} {Q : Int → Prop} (hb : Blk h b cs) (hc : cs[o]? = some (.int k m)) (q : Q m) : ldI h ⟨b, o, none⟩ k Q := ⟨m, cell_at hb hc, q⟩
theorem ldB_at {m : Bool} {Q : Bool → Prop} (hb : Blk h b cs) (hc : cs[o]? = some (.bool m)) (q : Q m) : ldB h ⟨b, o, none⟩ Q := ⟨m, cell_at hb hc, q⟩
theorem ldP_at {m : Option Addr} {Q : Option Addr → Prop} (hb : Blk h b cs) (hc : cs[o]? = some (.pointer m)) (q : Q m) : ldP h ⟨b, o, none⟩ Q := ⟨m, cell_at hb hc, q⟩
theorem ldS_at {m : Option Addr} {l c : Nat} {Q : Option Addr → Nat → Nat → Prop} (hb : Blk h b cs) (hc : cs[o]? = some (.slice m l c)) (q : Q m l c) : ldS h ⟨b, o, none⟩ Q := ⟨m, l, c, cell_at hb hc, q⟩
theorem ld1_at {m : Value} {Q : Value → Prop} (hb : Blk h b cs) (hc : cs[o]? = some m) (q : Q m) : ld1 h ⟨b, o, none⟩ Q := ⟨m, cell_at hb hc, q⟩
theorem ldR_at {xs : List Value} {Q : Array Value → Prop} (hb : Blk h b cs) (ha : At cs o xs) (hn : xs.length = n) (hl : o + n ≤ cs.size) (q : Q xs.toArray) : ldR h ⟨b, o, none⟩ n Q := ⟨_, row_at hb ha hn hl, q⟩

theorem add_mk (b o n : Nat) : (Addr.mk b o none).add n = Addr.mk b (o + n) none := Addr.add_none b o n

theorem Run.mono {P : Program} {f : FuncId} {args : Array Value} {h : Hp} {K K' : Value → Hp → Prop} (hr : Run P f args h K) (hk : ∀ v h', K v h' → K' v h') : Run P f args h K' := by
  intro w hw
  have := hr w hw
  exact Calls.mono this fun e w' ⟨v, a, b, c⟩ => ⟨v, a, b, hk _ _ c⟩

/-! ### Slices of cells, one cell an element or more -/

/-- The slice's elements are these cells; the slice starts its block's place o. -/
def SlAt (h : Hp) (p : Option Addr) (xs : List Value) : Prop :=
  match p with
  | none => xs = []
  | some a => ∃ b o cs, a = ⟨b, o, none⟩ ∧ Blk h b cs ∧ At cs o xs ∧ o + xs.length ≤ cs.size

/-- The slice's block is none of these. -/
def Off (p : Option Addr) (S : Nat → Prop) : Prop := ∀ a, p = some a → ¬ S a.block

theorem SlAt.only {p : Option Addr} {xs : List Value} (hs : SlAt h p xs) (ho : Only S h h') (hn : Off p S) : SlAt h' p xs := by
  cases p with
  | none => exact hs
  | some a =>
    obtain ⟨b, o, cs, rfl, hb, ha, hl⟩ := hs
    exact ⟨b, o, cs, rfl, hb.only ho (hn _ rfl), ha, hl⟩
theorem SlAt.row {p : Option Addr} {xs : List Value} (hs : SlAt h p xs) (hn : xs.length = n) : match p with | none => n = 0 | some a => rowH h a n = some xs.toArray := by
  cases p with
  | none => simp only [SlAt] at hs; subst hs; simpa using hn.symm
  | some a => obtain ⟨b, o, cs, rfl, hb, ha, hl⟩ := hs; exact row_at hb ha hn (by omega)
theorem SlAt.cell {p : Option Addr} {xs : List Value} (hs : SlAt h p xs) {j : Nat} {x : Value} (hj : xs[j]? = some x) : ∃ a, p = some a ∧ a.spot = none ∧ cellH h (a.add j) = some x := by
  cases p with
  | none => simp only [SlAt] at hs; subst hs; simp at hj
  | some a =>
    obtain ⟨b, o, cs, rfl, hb, ha, hl⟩ := hs
    exact ⟨_, rfl, rfl, by rw [add_mk]; exact cell_at hb (ha j x hj)⟩

end Am
end Go.Proofs.Ytfijmoofdafoiaa
