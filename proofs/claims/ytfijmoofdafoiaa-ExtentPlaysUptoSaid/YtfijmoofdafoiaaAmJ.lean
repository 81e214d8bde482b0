/-
  What the disk's small functions do.
-/
import Derived.Test.YtfijmoofdafoiaaAmI
set_option linter.unusedSimpArgs false
set_option linter.unusedVariables false
set_option maxRecDepth 100000
namespace Go.Proofs.Ytfijmoofdafoiaa
open Go
namespace Am

variable {S S' : Nat → Prop} {h h' h'' : Hp} {d : Nat} {B : Option Nat} {cap : Nat} {s : DSt} {cs : Array Value} {K : Value → Hp → Prop}

theorem setB_heap (h : Hp) (g : Nat) (cs : Array Value) : Only (· = g) h (setB h g cs) := (Only.refl _ h).set (.inl rfl)

theorem there_spec {n : Int} (k : K (.bool (decide (0 ≤ n ∧ n < 1024))) h) : Run tc.P 53 #[.int .i64 n] h K := by
  apply L53_run; unfold L53
  refine bsel_dec (fun h0 => ?_) fun h0 => ?_
  · rwa [show (decide (0 ≤ n ∧ n < 1024)) = decide (n < 1024) from by simp [h0]] at k
  · rwa [show (decide (0 ≤ n ∧ n < 1024)) = false from by simp [h0]] at k

theorem down_spec (hd : DiskAt h d B s) (k : K (.bool s.down) h) : Run tc.P 23 #[.pointer (some ⟨d, 0, none⟩)] h K := by
  apply L23_run; unfold L23; simp only [onPtr, add_mk, Nat.zero_add]
  obtain ⟨cap, cs, hb⟩ := hd
  exact ldB_at hb.blk hb.get.2.2.2.1 k

theorem acts_spec (hd : DiskAt h d B s) (k : K (.int .i64 s.acts) h) : Run tc.P 51 #[.pointer (some ⟨d, 0, none⟩)] h K := by
  apply L51_run; unfold L51; simp only [onPtr, add_mk, Nat.zero_add]
  obtain ⟨cap, cs, hb⟩ := hd
  exact ldI_at hb.blk hb.get.2.2.2.2 k

def DSt.arm (s : DSt) (n : Int) : Int × DSt := if n < 0 then (1, s) else if s.down then (42, s) else (0, { s with armed := true, left := n })

theorem one_ok (v : Value) (hv : v.oneCell' = true) : ∀ x ∈ (#[v] : Array Value).toList, x.oneCell' = true := by
  intro x hx; simp at hx; subst hx; exact hv

theorem Only.setd (ho : Only (fun x => x = d) h h') (cs : Array Value) : Only (fun x => x = d) h (setB h' d cs) := ho.set (.inl rfl)
abbrev Od (d : Nat) : Nat → Prop := fun x => x = d

theorem arm_spec {n : Int} (hd : DiskAt h d B s) (k : ∀ h', Only (Od d) h h' → DiskAt h' d B (s.arm n).2 → K (.int .i64 (s.arm n).1) h') : Run tc.P 21 #[.pointer (some ⟨d, 0, none⟩), .int .i64 n] h K := by
  apply L21_run; unfold L21; simp only [onPtr, add_mk, Nat.zero_add]
  refine bsel_dec (fun h0 => ?_) fun h0 => ?_
  · have e : s.arm n = (1, s) := by simp [DSt.arm, h0]
    rw [e] at k; exact k h (Only.refl _ _) hd
  obtain ⟨cap, cs, hb⟩ := hd
  refine ldB_at hb.blk hb.get.2.2.2.1 (bsel_b (fun h1 => ?_) fun h1 => ?_)
  · have e : s.arm n = (42, s) := by simp [DSt.arm, h0, h1]
    rw [e] at k; exact k h (Only.refl _ _) ⟨cap, cs, hb⟩
  · have hb1 := hb.tailSet (s' := { s with armed := true }) (k := 1) (v := .bool true) rfl rfl (by omega) rfl
    have hb2 := hb1.tailSet (s' := { s with armed := true, left := n }) (k := 2) (v := .int .i64 n) rfl rfl (by omega) rfl
    have e : s.arm n = (0, { s with armed := true, left := n }) := by simp [DSt.arm, h0, h1]
    rw [e] at k
    exact st_at hb.blk (by simp [hb.size]) (one_ok _ rfl) (st_at hb1.blk (by simp [hb1.size]) (one_ok _ rfl) (k _ (((Only.refl _ h).setd _).setd _) ⟨_, _, hb2⟩))

def DSt.act (s : DSt) : Bool × DSt :=
  if s.down then (false, s)
  else if s.armed then (if s.left = 0 then (false, { s with down := true }) else (true, { s with left := IntKind.i64.wrap (s.left - 1), acts := IntKind.i64.wrap (s.acts + 1) }))
  else (true, { s with acts := IntKind.i64.wrap (s.acts + 1) })

theorem act_spec (hd : DiskAt h d B s) (k : ∀ h', Only (Od d) h h' → DiskAt h' d B s.act.2 → K (.bool s.act.1) h') : Run tc.P 54 #[.pointer (some ⟨d, 0, none⟩)] h K := by
  apply L54_run; unfold L54; simp only [onPtr, add_mk, Nat.zero_add]
  obtain ⟨cap, cs, hb⟩ := hd
  refine ldB_at hb.blk hb.get.2.2.2.1 (bsel_b (fun h0 => ?_) fun h0 => ?_)
  · have e : s.act = (false, s) := by simp [DSt.act, h0]
    rw [e] at k; exact k h (Only.refl _ _) ⟨_, _, hb⟩
  refine ldB_at hb.blk hb.get.2.1 (bsel_b (fun h1 => ?_) fun h1 => ?_)
  · refine ldI_at hb.blk hb.get.2.2.1 (bsel_dec (fun h2 => ?_) fun h2 => ?_)
    · have hb1 := hb.tailSet (s' := { s with down := true }) (k := 3) (v := .bool true) rfl rfl (by omega) rfl
      have e : s.act = (false, { s with down := true }) := by simp [DSt.act, h0, h1, h2]
      rw [e] at k
      exact st_at hb.blk (by simp [hb.size]) (one_ok _ rfl) (k _ ((Only.refl _ h).setd _) ⟨_, _, hb1⟩)
    · have hb1 := hb.tailSet (s' := { s with left := IntKind.i64.wrap (s.left - 1) }) (k := 2) (v := .int .i64 (IntKind.i64.wrap (s.left - 1))) rfl rfl (by omega) rfl
      have hb2 := hb1.tailSet (s' := { s with left := IntKind.i64.wrap (s.left - 1), acts := IntKind.i64.wrap (s.acts + 1) }) (k := 4) (v := .int .i64 (IntKind.i64.wrap (s.acts + 1))) rfl rfl (by omega) rfl
      have e : s.act = (true, { s with left := IntKind.i64.wrap (s.left - 1), acts := IntKind.i64.wrap (s.acts + 1) }) := by simp [DSt.act, h0, h1, h2]
      rw [e] at k
      exact ldI_at hb.blk hb.get.2.2.1 (st_at hb.blk (by simp [hb.size]) (one_ok _ rfl) (ldI_at hb1.blk hb1.get.2.2.2.2 (st_at hb1.blk (by simp [hb1.size]) (one_ok _ rfl) (k _ (((Only.refl _ h).setd _).setd _) ⟨_, _, hb2⟩))))
  · have hb1 := hb.tailSet (s' := { s with acts := IntKind.i64.wrap (s.acts + 1) }) (k := 4) (v := .int .i64 (IntKind.i64.wrap (s.acts + 1))) rfl rfl (by omega) rfl
    have e : s.act = (true, { s with acts := IntKind.i64.wrap (s.acts + 1) }) := by simp [DSt.act, h0, h1]
    rw [e] at k
    exact ldI_at hb.blk hb.get.2.2.2.2 (st_at hb.blk (by simp [hb.size]) (one_ok _ rfl) (k _ ((Only.refl _ h).setd _) ⟨_, _, hb1⟩))

/-! ### join -/

theorem zerosN_u8 (n : Nat) : zerosN (zeroOf tc.P 5) n = (List.replicate n (byteV 0)).toArray := by
  rw [z5]; apply Array.ext <;> simp [zerosN, byteV, Nat.mod_one]

theorem join_spec {p q : Option Addr} {c c' : Nat} {bs : List UInt8} (hp : SlAt h p [.slice q 128 c]) (hq : SlAt h q (byV bs)) (hl : bs.length = 128)
    (k : ∀ h', Only (fun _ => False) h h' → h'.size = h.size + 1 → Blk h' h.size (byV bs).toArray → K (.slice (some ⟨h.size, 0, none⟩) 128 128) h') : Run tc.P 57 #[.slice p 1 c'] h K := by
  cases p with
  | none => simp [SlAt] at hp
  | some a =>
  obtain ⟨b, o, cs, rfl, hb, hat, hle⟩ := hp
  apply L57_run; unfold L57
  refine ⟨fun s h' => h' = h ∧ ((s.2.1 = 0 ∧ s.1 = 0) ∨ (s.2.1 = 1 ∧ s.1 = 128)), fun s _ => (1 - s.2.1).toNat, ⟨rfl, .inl ⟨rfl, rfl⟩⟩, ?_⟩
  rintro ⟨m, i, ⟨⟩⟩ h' ⟨rfl, hi⟩
  simp only at hi ⊢
  refine bsel_dec (fun h0 => ?_) fun h0 => ?_
  · obtain ⟨rfl, rfl⟩ : i = 0 ∧ m = 0 := by
      rcases hi with hi | hi
      · exact hi
      · exfalso; have := hi.1; omega
    refine ⟨⟨by decide, h0⟩, ?_⟩
    simp only [onO, add_mk]
    exact ldS_at hb (hat 0 _ rfl) ⟨⟨trivial, .inr ⟨by decide, by decide⟩⟩, by decide⟩
  obtain ⟨rfl, rfl⟩ : i = 1 ∧ m = 128 := by
    rcases hi with hi | hi
    · exfalso; have := hi.1; omega
    · exact hi
  simp only [mkSl, onI, if_true]
  refine ⟨by decide, ?_⟩
  rw [if_neg (by decide), zerosN_u8]
  have hbn : Blk (h'.push (.cells (List.replicate 128 (byteV 0)).toArray 5)) h'.size (List.replicate 128 (byteV 0)).toArray := Blk.new _ _ _
  have hv : (byV bs).length = 128 := by rw [byV_length, hl]
  refine ⟨fun s g => (s.2.1 = 0 ∧ s.1 = 0 ∧ g = h'.push (.cells (List.replicate 128 (byteV 0)).toArray 5)) ∨ (s.2.1 = 1 ∧ s.1 = 128 ∧ Only (fun _ => False) h' g ∧ g.size = h'.size + 1 ∧ Blk g h'.size (byV bs).toArray), fun s _ => (1 - s.2.1).toNat, .inl ⟨rfl, rfl, rfl⟩, ?_⟩
  rintro ⟨m, i, ⟨⟩⟩ g hi
  simp only at hi ⊢
  refine bsel_dec (fun h1 => ?_) fun h1 => ?_
  · obtain ⟨rfl, rfl, rfl⟩ : i = 0 ∧ m = 0 ∧ g = _ := by
      rcases hi with hi | hi
      · exact hi
      · exfalso; have := hi.1; omega
    refine ⟨⟨by decide, h1⟩, ?_⟩
    simp only [onO, add_mk]
    refine ldS_at (hb.push _) (hat 0 _ rfl) ?_
    simp only [onSl]
    refine ⟨⟨by decide, by decide⟩, ?_⟩
    have hq' : SlAt (h'.push (.cells (List.replicate 128 (byteV 0)).toArray 5)) q (byV bs) := hq.only ((Only.refl (fun _ => False) _).push _) (fun _ _ => id)
    refine ⟨(byV bs).toArray, ?_, ?_⟩
    · have := hq'.row (n := 128) hv
      cases q with
      | none => simp at this
      | some q => simpa using this
    · simp only [slAddr]
      refine st_at hbn (by simp [hv]) (fun v hx => byV_one bs v (by simpa using hx)) ?_
      have hs : splice (List.replicate 128 (byteV 0)).toArray 0 (byV bs).toArray = (byV bs).toArray := by
        simp only [splice, List.take_zero, List.nil_append]
        rw [List.drop_of_length_le (by simp [hv])]; simp
      refine ⟨.inr ⟨by decide, by decide, ((Only.refl _ _).push _).set (.inr (Nat.le_refl _)), by rw [setB_size]; simp, ?_⟩, by decide⟩
      show Blk (setB _ h'.size (splice (List.replicate 128 (byteV 0)).toArray 0 (byV bs).toArray)) h'.size (byV bs).toArray
      rw [hs]; exact hbn.setB
  · rcases hi with hi | hi
    · exfalso; have := hi.1; omega
    · exact k g hi.2.2.1 hi.2.2.2.1 hi.2.2.2.2

end Am
end Go.Proofs.Ytfijmoofdafoiaa
