/-
  The reference's table in the heap, and what its functions do to it.
-/
import Derived.Test.YtfijmoofdafoiaaBc
set_option linter.unusedSimpArgs false
set_option linter.unusedVariables false
set_option maxRecDepth 100000
namespace Go.Proofs.Ytfijmoofdafoiaa
open Go Go.RowKit
namespace Am

variable {T T' : Nat → Prop} {h h' h'' : Hp} {F F' : Nat → Prop} {s s' : DSt} {f f' : Nat → Option ExtS} {K : Value → Hp → Prop}
variable {r t m m' : Nat} {P P' : Option Nat} {pc pc' : Nat} {cl cl' : List ExtS}

/-! ### The plain law of its list -/

def isN (n : Int) (x : ExtS) : Bool := decide (x.num = n)

structure RelT (f : Nat → Option ExtS) (cl : List ExtS) (m : Nat) : Prop where
  get : ∀ n, n < 32 → f n = cl.find? (isN (n : Int))
  num : ∀ x ∈ cl, 0 ≤ x.num ∧ x.num < 32
  nodup : (cl.map ExtS.num).Nodup
  hol : ∀ x ∈ cl, 1 ≤ x.holds ∧ x.holds ≤ (m : Int) + 1
  len : cl.length ≤ m

theorem RelT.more (hr : RelT f cl m) (hm : m ≤ m') : RelT f cl m' :=
  ⟨hr.get, hr.num, hr.nodup, fun x hx => by have := hr.hol x hx; omega, by have := hr.len; omega⟩

theorem RelT.getR (hr : RelT f cl m) (n : Int) : getR f n = cl.find? (isN n) := by
  unfold Am.getR
  split
  · rename_i h
    rw [hr.get _ (by omega), Int.toNat_of_nonneg h.1]
  · rename_i h
    symm
    rw [List.find?_eq_none]
    intro x hx
    have := hr.num x hx
    simp only [isN, decide_eq_true_eq]
    omega

def atL : List ExtS → Int → Nat → Int
  | [], _, _ => -1
  | x :: r, n, i => if x.num = n then (i : Int) else atL r n (i + 1)

theorem atL_cases (n : Int) : ∀ (cl : List ExtS) (i : Nat), (atL cl n i = -1 ∧ cl.find? (isN n) = none) ∨ ∃ (k : Nat) (x : ExtS), atL cl n i = ((i + k : Nat) : Int) ∧ cl[k]? = some x ∧ x.num = n ∧ cl.find? (isN n) = some x := by
  intro cl
  induction cl with
  | nil => intro i; exact .inl ⟨rfl, rfl⟩
  | cons z r ih =>
    intro i
    by_cases hz : z.num = n
    · refine .inr ⟨0, z, by simp [atL, hz], rfl, hz, ?_⟩
      simp [isN, hz]
    · have hf : (z :: r).find? (isN n) = r.find? (isN n) := by simp [isN, hz]
      have ha : atL (z :: r) n i = atL r n (i + 1) := by simp [atL, hz]
      rw [hf, ha]
      rcases ih (i + 1) with ⟨h1, h2⟩ | ⟨k, x, h1, h2, h3, h4⟩
      · exact .inl ⟨h1, h2⟩
      · exact .inr ⟨k + 1, x, by rw [h1]; congr 1; omega, by simpa using h2, h3, h4⟩

theorem find_set {n : Int} {x y : ExtS} : ∀ (cl : List ExtS) (k : Nat), cl[k]? = some x → y.num = x.num → (cl.map ExtS.num).Nodup → (cl.set k y).find? (isN n) = if n = x.num then some y else cl.find? (isN n) := by
  intro cl
  induction cl with
  | nil => intro k hk; simp at hk
  | cons z r ih =>
    intro k hk hy hn
    rw [List.map_cons, List.nodup_cons] at hn
    cases k with
    | zero =>
      simp only [List.getElem?_cons_zero, Option.some.injEq] at hk
      subst hk
      by_cases h : n = z.num
      · simp [isN, hy, h]
      · have h1 : ¬ z.num = n := fun e => h e.symm
        simp [isN, hy, h, h1]
    | succ k =>
      simp only [List.getElem?_cons_succ] at hk
      have hz : z.num ≠ x.num := fun e => hn.1 (e ▸ List.mem_map_of_mem (List.mem_of_getElem? hk))
      have hi := ih k hk hy hn.2
      simp only [List.set_cons_succ]
      by_cases hzn : z.num = n
      · have h1 : ¬ n = x.num := fun e => hz (hzn.trans e)
        simp [isN, hzn, h1]
      · have h1 : (z :: r.set k y).find? (isN n) = (r.set k y).find? (isN n) := by simp [isN, hzn]
        have h2 : (z :: r).find? (isN n) = r.find? (isN n) := by simp [isN, hzn]
        rw [h1, h2, hi]

theorem find_erase {n : Int} {x : ExtS} : ∀ (cl : List ExtS) (k : Nat), cl[k]? = some x → (cl.map ExtS.num).Nodup → (cl.eraseIdx k).find? (isN n) = if n = x.num then none else cl.find? (isN n) := by
  intro cl
  induction cl with
  | nil => intro k hk; simp at hk
  | cons z r ih =>
    intro k hk hn
    rw [List.map_cons, List.nodup_cons] at hn
    cases k with
    | zero =>
      simp only [List.getElem?_cons_zero, Option.some.injEq] at hk
      subst hk
      simp only [List.eraseIdx_zero, List.tail_cons]
      by_cases h : n = z.num
      · rw [if_pos h, List.find?_eq_none]
        intro w hw
        simp only [isN, decide_eq_true_eq]
        exact fun e => hn.1 (by rw [← h, ← e]; exact List.mem_map_of_mem hw)
      · have h1 : ¬ z.num = n := fun e => h e.symm
        simp [isN, h, h1]
    | succ k =>
      simp only [List.getElem?_cons_succ] at hk
      have hz : z.num ≠ x.num := fun e => hn.1 (e ▸ List.mem_map_of_mem (List.mem_of_getElem? hk))
      have hi := ih k hk hn.2
      simp only [List.eraseIdx_cons_succ]
      by_cases hzn : z.num = n
      · have h1 : ¬ n = x.num := fun e => hz (hzn.trans e)
        simp [isN, hzn, h1]
      · have h1 : (z :: r.eraseIdx k).find? (isN n) = (r.eraseIdx k).find? (isN n) := by simp [isN, hzn]
        have h2 : (z :: r).find? (isN n) = r.find? (isN n) := by simp [isN, hzn]
        rw [h1, h2, hi]

theorem map_num_set {x y : ExtS} {k : Nat} (hk : cl[k]? = some x) (hy : y.num = x.num) : (cl.set k y).map ExtS.num = cl.map ExtS.num := by
  apply List.ext_getElem?
  intro i
  rw [List.getElem?_map, List.getElem?_map, List.getElem?_set]
  split
  · rename_i e; subst e
    have hl := (List.getElem?_eq_some_iff.1 hk).1
    rw [hk, if_pos hl]; simp [hy]
  · rfl

theorem RelT.set (hr : RelT f cl m) {k : Nat} {x y : ExtS} (hk : cl[k]? = some x) (hy : y.num = x.num) (hh : 1 ≤ y.holds ∧ y.holds ≤ (m' : Int) + 1) (hm : m ≤ m') : RelT (upd f x.num.toNat (some y)) (cl.set k y) m' := by
  have hx := hr.num x (List.mem_of_getElem? hk)
  refine ⟨fun n hn => ?_, fun z hz => ?_, ?_, fun z hz => ?_, by have := hr.len; rw [List.length_set]; omega⟩
  · rw [find_set cl k hk hy hr.nodup]
    unfold upd
    by_cases h : n = x.num.toNat
    · rw [if_pos h, if_pos (by omega)]
    · rw [if_neg h, if_neg (by omega)]; exact hr.get n hn
  · rcases List.mem_or_eq_of_mem_set hz with k | rfl
    · exact hr.num z k
    · rw [hy]; exact hx
  · rw [map_num_set hk hy]; exact hr.nodup
  · rcases List.mem_or_eq_of_mem_set hz with k | rfl
    · have := hr.hol z k; omega
    · exact hh

theorem RelT.erase (hr : RelT f cl m) {k : Nat} {x : ExtS} (hk : cl[k]? = some x) : RelT (upd f x.num.toNat none) (cl.eraseIdx k) m := by
  have hx := hr.num x (List.mem_of_getElem? hk)
  refine ⟨fun n hn => ?_, fun z hz => hr.num z (List.mem_of_mem_eraseIdx hz), ?_, fun z hz => hr.hol z (List.mem_of_mem_eraseIdx hz), ?_⟩
  · rw [find_erase cl k hk hr.nodup]
    unfold upd
    by_cases h : n = x.num.toNat
    · rw [if_pos h, if_pos (by omega)]
    · rw [if_neg h, if_neg (by omega)]; exact hr.get n hn
  · exact List.Nodup.sublist ((List.eraseIdx_sublist cl k).map _) hr.nodup
  · have := hr.len; have := (List.eraseIdx_sublist cl k).length_le; omega

theorem RelT.add (hr : RelT f cl m) {N : Nat} {y : ExtS} (hN : N < 32) (hf : f N = none) (hy : y.num = (N : Int)) (hh : y.holds = 1) : RelT (upd f N (some y)) (cl ++ [y]) (m + 1) := by
  have hnone : cl.find? (isN (N : Int)) = none := by rw [← hr.get N hN]; exact hf
  rw [List.find?_eq_none] at hnone
  refine ⟨fun n hn => ?_, fun z hz => ?_, ?_, fun z hz => ?_, by have := hr.len; simp; omega⟩
  · rw [List.find?_append]
    unfold upd
    by_cases h : n = N
    · subst h
      rw [if_pos rfl, List.find?_eq_none.2 hnone]
      simp [isN, hy]
    · rw [if_neg h, hr.get n hn]
      have : ([y] : List ExtS).find? (isN (n : Int)) = none := by simp [isN, hy]; omega
      rw [this, Option.or_none]
  · rcases List.mem_append.1 hz with hz | hz
    · exact hr.num z hz
    · cases List.mem_singleton.1 hz; rw [hy]; omega
  · rw [List.map_append, List.nodup_append]
    refine ⟨hr.nodup, by simp, fun a ha b hb => ?_⟩
    obtain ⟨z, hz, rfl⟩ := List.mem_map.1 ha
    simp only [List.map_cons, List.map_nil, List.mem_singleton] at hb
    subst hb
    have := hnone z hz
    simp only [isN, decide_eq_true_eq] at this
    rw [hy]; exact this
  · rcases List.mem_append.1 hz with hz | hz
    · have := hr.hol z hz; omega
    · cases List.mem_singleton.1 hz; rw [hh]; omega

/-! ### The table in the heap -/

theorem extsV_length (l : List ExtS) : (l.flatMap extV).length = l.length * 3 := by
  induction l with
  | nil => rfl
  | cons e r ih => rw [List.flatMap_cons, List.length_append, ih]; simp [extV]; omega

structure RTBox (h : Hp) (F : Nat → Prop) (t r : Nat) (P : Option Nat) (pc : Nat) (cl : List ExtS) : Prop where
  blk : Blk h t #[.slice (oP P) cl.length pc, .pointer (some ⟨r, 0, none⟩)]
  ft : F t
  fp : ∀ b, P = some b → F b ∧ b ≠ t
  buf : Buf h 3 (oP P) cl.length pc (cl.flatMap extV)

theorem RTBox.only (hb : RTBox h F t r P pc cl) (ho : Only T h h') (hn : ∀ b, F b → ¬ T b) : RTBox h' F t r P pc cl :=
  ⟨hb.blk.only ho (hn _ hb.ft), hb.ft, hb.fp, hb.buf.only ho (off_oP fun b hb' => hn _ (hb.fp b hb').1)⟩
theorem RTBox.ltP (hb : RTBox h F t r P pc cl) {b : Nat} (hP : P = some b) : b < h.size := by have := hb.buf; subst hP; exact Buf.lt this
theorem RTBox.mono (hb : RTBox h F t r P pc cl) (hF : ∀ b, b < h.size → F b → F' b) : RTBox h F' t r P pc cl :=
  ⟨hb.blk, hF _ hb.blk.lt hb.ft, fun b hb' => ⟨hF b (hb.ltP hb') (hb.fp b hb').1, (hb.fp b hb').2⟩, hb.buf⟩

def RTabAt (h : Hp) (F : Nat → Prop) (t r m : Nat) (f : Nat → Option ExtS) : Prop := ∃ P pc cl, RTBox h F t r P pc cl ∧ RelT f cl m

theorem RTabAt.only (hd : RTabAt h F t r m f) (ho : Only T h h') (hn : ∀ b, F b → ¬ T b) : RTabAt h' F t r m f := by
  obtain ⟨P, pc, cl, hb, hr⟩ := hd; exact ⟨P, pc, cl, hb.only ho hn, hr⟩
theorem RTabAt.mono (hd : RTabAt h F t r m f) (hF : ∀ b, b < h.size → F b → F' b) : RTabAt h F' t r m f := by
  obtain ⟨P, pc, cl, hb, hr⟩ := hd; exact ⟨P, pc, cl, hb.mono hF, hr⟩
theorem RTabAt.more (hd : RTabAt h F t r m f) (hm : m ≤ m') : RTabAt h F t r m' f := by
  obtain ⟨P, pc, cl, hb, hr⟩ := hd; exact ⟨P, pc, cl, hb, hr.more hm⟩
theorem RTabAt.grow (hd : RTabAt h F t r m f) : RTabAt h (Gr F h') t r m f := hd.mono fun b _ hb => .inl hb

theorem RTBox.row (hb : RTBox h F t r P pc cl) {i : Nat} {e : ExtS} (hi : cl[i]? = some e) : ∃ b cs, P = some b ∧ Blk h b cs ∧ At cs (i * 3) (extV e) ∧ i * 3 + 3 ≤ cs.size := by
  have hbuf := hb.buf
  cases P with
  | none => have := hbuf.2.1; rw [List.length_eq_zero_iff] at this; rw [this] at hi; simp at hi
  | some b =>
    obtain ⟨b', cs, he, hbc, hcs, ha, -⟩ := hbuf
    cases he
    have hat : At cs (i * 3) (extV e) := by
      have := At.flat (f := extV) (n := 3) (l := cl) (o := 0) (fun e he => rfl) ha hi
      simpa using this
    exact ⟨_, cs, rfl, hbc, hat, hat.le (by simp [extV])⟩

theorem flat_set {x y : ExtS} {v : Int} (hy : y = { x with holds := v }) : ∀ (cl : List ExtS) (k : Nat), cl[k]? = some x → (cl.flatMap extV).set (k * 3 + 2) (.int .i64 v) = (cl.set k y).flatMap extV := by
  intro cl
  induction cl with
  | nil => intro k hk; simp at hk
  | cons z r ih =>
    intro k hk
    cases k with
    | zero =>
      simp only [List.getElem?_cons_zero, Option.some.injEq] at hk
      subst hk hy
      rfl
    | succ k =>
      simp only [List.getElem?_cons_succ] at hk
      have := ih k hk
      rw [List.flatMap_cons, List.set_cons_succ, List.flatMap_cons, ← this]
      rw [List.set_append_right _ _ (by simp [extV]; omega)]
      congr 2
      simp [extV]; omega

/-- The holds of one claim are written. -/
theorem RTBox.setE (hb : RTBox h F t r P pc cl) {k b : Nat} {cs : Array Value} {x : ExtS} {v : Int} (hk : cl[k]? = some x) (hP : P = some b) (hbk : Blk h b cs) :
    RTBox (setB h b (splice cs (k * 3 + 2) #[.int .i64 v])) F t r P pc (cl.set k { x with holds := v }) := by
  subst hP
  have hkl := (List.getElem?_eq_some_iff.1 hk).1
  refine ⟨?_, hb.ft, hb.fp, ?_⟩
  · rw [List.length_set]; exact hb.blk.ofSetB fun e => (hb.fp b rfl).2 e.symm
  · obtain ⟨b', cs', e, hb', hs', ha', hx', hl'⟩ := hb.buf
    cases e
    obtain rfl := hbk.inj hb'
    have hfl := extsV_length cl
    refine ⟨b, _, rfl, hbk.setB, ?_, ?_, by rw [extsV_length], by rw [List.length_set]; exact hl'⟩
    · rw [splice_size (by simp only [List.size_toArray, List.length_cons, List.length_nil]; omega)]; exact hs'
    · have := ha'.splice_set (k := k * 3 + 2) (v := .int .i64 v) (by omega)
      rw [flat_set (y := { x with holds := v }) rfl cl k hk] at this
      simpa using this

/-- The list is another one now. -/
theorem RTBox.setP (hb : RTBox h F t r P pc cl) {h1 : Hp} (ho : Only (fun b => oP P = some ⟨b, 0, none⟩) h h1) (hbuf : Buf h1 3 (oP P') cl'.length pc' (cl'.flatMap extV)) (hP : P' = P ∨ P' = none ∨ ∃ b, P' = some b ∧ h.size ≤ b) :
    RTBox (setB h1 t (splice #[.slice (oP P) cl.length pc, .pointer (some ⟨r, 0, none⟩)] 0 #[.slice (oP P') cl'.length pc'])) (Gr F h) t r P' pc' cl' := by
  have hlt := hb.blk.lt
  have hbk := hb.blk.only ho fun e => (hb.fp _ (oP_block e)).2 rfl
  have hne : ∀ b, P' = some b → Gr F h b ∧ b ≠ t := by
    intro b e
    rcases hP with rfl | rfl | ⟨b', rfl, hb'⟩
    · exact ⟨.inl (hb.fp b e).1, (hb.fp b e).2⟩
    · cases e
    · cases e; exact ⟨.inr hb', by omega⟩
  refine ⟨hbk.setB, .inl hb.ft, hne, ?_⟩
  exact hbuf.only (S := fun b => b = t) ((Only.refl _ _).set (.inl rfl)) (off_oP fun b e k => (hne b e).2 k)

/-! ### Its functions -/

theorem rat_spec {n : Int} (hb : RTBox h F t r P pc cl) (hl : cl.length ≤ 100000000) (k : K (.int .i64 (atL cl n 0)) h) : Run tc.P 73 #[.pointer (some ⟨t, 0, none⟩), .int .i64 n] h K := by
  apply L73_run; unfold L73; simp only [onPtr, add_mk, Nat.zero_add]
  refine ⟨fun st h' => ∃ I : Nat, st.1 = (I : Int) ∧ I ≤ cl.length ∧ h' = h ∧ atL (cl.drop I) n I = atL cl n 0, fun st _ => ((cl.length : Int) - st.1).toNat, ⟨0, rfl, Nat.zero_le _, rfl, rfl⟩, ?_⟩
  rintro ⟨i, ⟨⟩⟩ h' ⟨I, hi, hI, rfl, hat⟩
  simp only at hi ⊢
  subst hi
  refine ldS_at hb.blk rfl (bsel_dec (fun h0 => ?_) fun h0 => ?_)
  · have hI2 : I < cl.length := by omega
    have hIe : cl[I]? = some (cl[I]'hI2) := List.getElem?_eq_getElem hI2
    rw [List.drop_eq_getElem_cons hI2] at hat
    generalize cl[I]'hI2 = e at *
    obtain ⟨b, cs, rfl, hbk, ha, -⟩ := hb.row hIe
    refine ldS_at hb.blk rfl ⟨⟨by omega, h0⟩, ?_⟩
    simp only [oP, Option.map_some, onO, add_mk, Nat.zero_add, Nat.add_zero, Int.toNat_natCast]
    refine ldI_at hbk (ha 0 _ rfl) (bsel_dec (fun h1 => ?_) fun h1 => ?_)
    · have : atL cl n 0 = (I : Int) := by rw [← hat]; simp [atL, h1]
      rw [this] at k; exact k
    · refine ⟨⟨I + 1, ?_, hI2, trivial, ?_⟩, ?_⟩
      · rw [w64 (by omega) (by omega)]; rfl
      · rw [← hat]; simp [atL, h1]
      · rw [w64 (by omega) (by omega)]; omega
  · have : I = cl.length := by omega
    subst this
    rw [List.drop_length] at hat
    rw [← hat] at k; exact k

theorem rserial_spec {n : Int} (hd : RTabAt h F t r m f) (hm : m ≤ 100000000) (k : K (.tuple #[.int .i64 (serialF f n).1, .int .i64 (serialF f n).2]) h) : Run tc.P 64 #[.pointer (some ⟨t, 0, none⟩), .int .i64 n] h K := by
  apply L64_run; unfold L64
  obtain ⟨P, pc, cl, hb, hr⟩ := hd
  have hlen := hr.len
  refine rat_spec hb (by omega) ?_
  refine onI_of ?_
  have hg := hr.getR n
  rcases atL_cases n cl 0 with ⟨h1, h2⟩ | ⟨i, x, h1, h2, h3, h4⟩
  · have e : serialF f n = (0, 100) := by unfold serialF; rw [hg, h2]
    rw [h1]; rw [e] at k
    exact bsel_dec (fun _ => k) fun e => absurd (by decide) e
  · have e : serialF f n = (x.ser, 0) := by unfold serialF; rw [hg, h4]
    rw [h1]; rw [e] at k
    rw [Nat.zero_add]
    refine bsel_dec (fun e => by omega) fun _ => ?_
    simp only [onPtr, add_mk, Nat.zero_add]
    obtain ⟨b, cs, rfl, hbk, ha, -⟩ := hb.row h2
    have hil := (List.getElem?_eq_some_iff.1 h2).1
    refine ldS_at hb.blk rfl ⟨⟨by omega, by omega⟩, ?_⟩
    simp only [oP, Option.map_some, onO, add_mk, Nat.zero_add, Int.toNat_natCast]
    exact ldI_at hbk (ha 1 _ rfl) k

theorem rwhere_spec {n q : Int} (hd : RTabAt h F t r m f) (hm : m ≤ 100000000) (k : K (.tuple #[.int .i64 (placeF f n q).1, .int .i64 (placeF f n q).2]) h) : Run tc.P 67 #[.pointer (some ⟨t, 0, none⟩), .int .i64 n, .int .i64 q] h K := by
  apply L67_run; unfold L67
  obtain ⟨P, pc, cl, hb, hr⟩ := hd
  have hlen := hr.len
  refine rat_spec hb (by omega) ?_
  refine onI_of ?_
  have hg := hr.getR n
  rcases atL_cases n cl 0 with ⟨h1, h2⟩ | ⟨i, x, h1, h2, h3, h4⟩
  · have e : placeF f n q = (0, 100) := by unfold placeF; rw [hg, h2]
    rw [h1]; rw [e] at k
    exact bsel_dec (fun _ => k) fun e => absurd (by decide) e
  · rw [h1, Nat.zero_add]
    have hx := hr.num x (List.mem_of_getElem? h2)
    refine bsel_dec (fun e => by omega) fun _ => bsel_dec (fun h5 => ?_) fun h5 => bsel_dec (fun h6 => ?_) fun h6 => ?_
    · have e : placeF f n q = (0, 40) := by unfold placeF; rw [hg, h4]; simp only; rw [if_pos h5]
      rw [e] at k; exact k
    · have e : placeF f n q = (0, 40) := by unfold placeF; rw [hg, h4]; simp only; rw [if_neg h5, if_pos h6]
      rw [e] at k; exact k
    · have e : placeF f n q = (n * 32 + q, 0) := by unfold placeF; rw [hg, h4]; simp only; rw [if_neg h5, if_neg h6]
      rw [e] at k
      rw [w64 (n := n * 32) (by omega) (by omega), w64 (by omega) (by omega)]
      exact k

theorem rhold_spec {n : Int} (hd : RTabAt h F t r m f) (hm : m ≤ 100000000) (k : ∀ h', Only F h h' → RTabAt h' F t r (m + 1) (holdF f n).2 → K (.int .i64 (holdF f n).1) h') :
    Run tc.P 61 #[.pointer (some ⟨t, 0, none⟩), .int .i64 n] h K := by
  apply L61_run; unfold L61
  obtain ⟨P, pc, cl, hb, hr⟩ := hd
  have hlen := hr.len
  refine rat_spec hb (by omega) ?_
  refine onI_of ?_
  have hg := hr.getR n
  rcases atL_cases n cl 0 with ⟨h1, h2⟩ | ⟨i, x, h1, h2, h3, h4⟩
  · have e : holdF f n = (100, f) := by unfold holdF; rw [hg, h2]
    rw [h1]; rw [e] at k
    exact bsel_dec (fun _ => k h (Only.refl _ _) ⟨P, pc, cl, hb, hr.more (by omega)⟩) fun e => absurd (by decide) e
  · have e : holdF f n = (0, upd f n.toNat (some { x with holds := IntKind.i64.wrap (x.holds + 1) })) := by unfold holdF; rw [hg, h4]
    rw [h1, Nat.zero_add]; rw [e] at k
    refine bsel_dec (fun e => by omega) fun _ => ?_
    simp only [onPtr, add_mk, Nat.zero_add]
    obtain ⟨b, cs, hP, hbk, ha, hsz⟩ := hb.row h2
    have hil := (List.getElem?_eq_some_iff.1 h2).1
    have hh := hr.hol x (List.mem_of_getElem? h2)
    have hoP : oP P = some ⟨b, 0, none⟩ := by rw [hP]; rfl
    refine ldS_at hb.blk rfl (ldS_at hb.blk rfl ⟨⟨by omega, by omega⟩, ?_⟩)
    rw [hoP]
    simp only [onO, add_mk, Nat.zero_add, Int.toNat_natCast]
    refine ldI_at hbk (ha 2 _ rfl) ⟨⟨by omega, by omega⟩, ?_⟩
    refine st_at hbk (by simp only [List.size_toArray, List.length_cons, List.length_nil]; omega) (one_ok _ rfl) ?_
    have hw : IntKind.i64.wrap (x.holds + 1) = x.holds + 1 := w64 (by omega) (by omega)
    refine k _ ((Only.refl _ _).set (.inl (hb.fp b hP).1)) ⟨P, pc, _, hb.setE h2 hP hbk, ?_⟩
    have := hr.set (m' := m + 1) (y := { x with holds := IntKind.i64.wrap (x.holds + 1) }) h2 rfl (by show 1 ≤ IntKind.i64.wrap (x.holds + 1) ∧ IntKind.i64.wrap (x.holds + 1) ≤ _; rw [hw]; omega) (by omega)
    rw [show x.num.toNat = n.toNat from by rw [h3]] at this
    exact this

end Am
end Go.Proofs.Ytfijmoofdafoiaa
