/-
  The helpers of the statements: runs of bytes, comparing, all sectors, a disk with some sectors written.
-/
import Derived.Test.YtfijmoofdafoiaaAmQ
import Derived.Laws.Strings
set_option linter.unusedSimpArgs false
set_option linter.unusedVariables false
set_option maxRecDepth 100000
namespace Go.Proofs.Ytfijmoofdafoiaa
open Go
namespace Am

variable {T T' : Nat → Prop} {h h' h'' : Hp} {L : Loc} {B B' : Option Nat} {f f' : Nat → Option ExtS} {s s' : DSt} {d : Nat} {K : Value → Hp → Prop}

theorem b2s_of {p : Option Addr} {bs : List UInt8} {c : Nat} {Q : ByteArray → Prop} (hp : SlAt h p (byV bs)) (q : Q ⟨bs.toArray⟩) : b2s h (.slice p bs.length c) Q := by
  unfold b2s
  simp only [onSl]
  cases p with
  | none =>
    simp only [SlAt, byV, List.map_eq_nil_iff] at hp
    subst hp; exact q
  | some a =>
    refine ⟨bs, rfl, fun j b hj => ?_, q⟩
    obtain ⟨a', e, -, hc⟩ := hp.cell (j := j) (x := byteV b) (by simp [byV, hj])
    injection e with e; subst e; exact hc

theorem same_spec {p q : Option Addr} {xs bs : List UInt8} {c c' : Nat} (hp : SlAt h p (byV xs)) (hq : SlAt h q (byV bs)) (k : K (.bool (decide (xs = bs))) h) :
    Run tc.P 16 #[.slice p xs.length c, .slice q bs.length c'] h K := by
  apply L16_run; unfold L16
  refine b2s_of hp (b2s_of hq ?_)
  rw [ByteArray.toList_mk, ByteArray.toList_mk]
  have e : (xs == bs) = decide (xs = bs) := by
    by_cases he : xs = bs
    · simp [he]
    · simp [he]
  rw [e]; exact k

theorem same_at {p q : Option Addr} {xs bs : List UInt8} {c c' l l' : Nat} (hl : xs.length = l) (hl' : bs.length = l') (hp : SlAt h p (byV xs)) (hq : SlAt h q (byV bs)) (k : K (.bool (decide (xs = bs))) h) :
    Run tc.P 16 #[.slice p l c, .slice q l' c'] h K := by subst hl hl'; exact same_spec hp hq k

theorem byV_inj {xs bs : List UInt8} (hb : byV xs = byV bs) : xs = bs := by
  refine (List.map_inj_right (fun x y hxy => ?_)).1 hb
  simp only [byteV, Value.int.injEq, true_and] at hxy
  exact UInt8.toNat_inj.1 (by exact_mod_cast hxy)

theorem u8_of {n : Int} : ∃ b : UInt8, IntKind.u8.wrap n = (b.toNat : Int) := by
  rw [IntKind.wrap_u8]
  refine ⟨UInt8.ofNat (n % 256).toNat, ?_⟩
  have : (n % 256).toNat < 256 := by omega
  rw [UInt8.toNat_ofNat', Nat.mod_eq_of_lt (by simpa using this)]
  omega

/-- No block that stood is this slice's. -/
def Fresh (h : Hp) (p : Option Addr) : Prop := ∀ a, p = some a → h.size ≤ a.block

theorem Fresh.off {p : Option Addr} (hf : Fresh h p) (hT : ∀ b, T b → b < h.size) : Off p T := fun a ha hb => by have := hf a ha; have := hT _ hb; omega
theorem Fresh.mono {p : Option Addr} (hf : Fresh h' p) (hs : h.size ≤ h'.size) : Fresh h p := fun a ha => Nat.le_trans hs (hf a ha)

theorem run_spec {b : UInt8} {n : Nat} (hn : n ≤ 100000) (k : ∀ h' p cap, Only (fun _ => False) h h' → Buf h' 1 p n cap (byV (List.replicate n b)) → Fresh h p → K (.slice p n cap) h') :
    Run tc.P 14 #[.int .u8 (b.toNat : Int), .int .i64 n] h K := by
  apply L14_run; unfold L14
  refine ⟨fun st h' => ∃ i : Nat, st.2.1 = (i : Int) ∧ i ≤ n ∧ st.1.2.1 = i ∧ Only (fun _ => False) h h' ∧ Buf h' 1 st.1.1 i st.1.2.2 (byV (List.replicate i b)) ∧ Fresh h st.1.1, fun st _ => ((n : Int) - st.2.1).toNat,
    ⟨0, rfl, Nat.zero_le _, rfl, Only.refl _ _, Buf.nil _ _, fun a ha => by cases ha⟩, ?_⟩
  rintro ⟨⟨p, l, c⟩, i, ⟨⟩⟩ h' ⟨I, hi, hI, hl, ho, hb, hf⟩
  simp only at hi hl hb hf ⊢
  subst hi hl
  refine bsel_dec (fun h0 => ?_) fun h0 => ?_
  · rw [fill1 (by rw [z5]; rfl) rfl]
    simp only [onO]
    have hnew := Blk.new h' [Value.int .u8 (b.toNat : Int)].toArray 5
    have ho1 : Only (fun _ => False) h' (h'.push (.cells [Value.int .u8 (b.toNat : Int)].toArray 5)) := (Only.refl _ _).push _
    refine apnd_buf (by rw [z5]; rfl) (hb.only ho1 fun _ _ => id) (ys := [byteV b]) ⟨_, _, _, rfl, hnew, At.all _, by simp⟩ rfl (by decide) (fun v hv => by simp at hv; subst hv; rfl) (by omega) (by decide) ?_
    intro p' cap' h2 ho2 hb2 hp2
    simp only [onSl]
    have ho3 : Only (fun _ => False) h h2 := (ho.push _).trans ho2 fun b' hb' e => by have := hf _ e; simp only at this; omega
    refine ⟨⟨l + 1, ?_, by omega, rfl, ho3, ?_, ?_⟩, ?_⟩
    · rw [w64 (by omega) (by omega)]; rfl
    · rw [List.replicate_succ']; simpa [byV] using hb2
    · rcases hp2 with rfl | ⟨b', rfl, hb'⟩
      · exact hf
      · intro a ha; injection ha with ha; subst ha; have := ho.1; have := ho1.1; exact by show h.size ≤ b'; omega
    · rw [w64 (by omega) (by omega)]; omega
  · have : l = n := by omega
    subst this
    exact k h' p c ho hb hf

/-! ### All sectors -/

def slV (g : Nat) : Value := .slice (some ⟨g, 0, none⟩) 128 128

structure WholeAt (h : Hp) (p : Option Addr) (cap : Nat) (gs : List Nat) (view : Nat → List UInt8) : Prop where
  buf : Buf h 1 p gs.length cap (gs.map slV)
  blk : ∀ i g, gs[i]? = some g → Blk h g (byV (view i)).toArray
  ne : ∀ g ∈ gs, ∀ a, p = some a → a.block ≠ g

theorem WholeAt.only {p : Option Addr} {cap : Nat} {gs : List Nat} {view : Nat → List UInt8} (hw : WholeAt h p cap gs view) (ho : Only T h h') (hp : Off p T) (hg : ∀ g ∈ gs, ¬ T g) : WholeAt h' p cap gs view :=
  ⟨hw.buf.only ho hp, fun i g hi => (hw.blk i g hi).only ho (hg g (List.mem_of_getElem? hi)), hw.ne⟩

theorem whole_spec (hd : DiskAt h d B s) (hl : s.cache.length ≤ 1099511627776) (hdn : s.down = false)
    (k : ∀ h' p cap gs, Only (fun _ => False) h h' → gs.length = 1024 → WholeAt h' p cap gs s.look → Fresh h p → (∀ g ∈ gs, h.size ≤ g) → K (.slice p 1024 cap) h') :
    Run tc.P 10 #[.pointer (some ⟨d, 0, none⟩)] h K := by
  apply L10_run; unfold L10
  refine ⟨fun st h' => ∃ gs : List Nat, st.2.1 = (gs.length : Int) ∧ gs.length ≤ 1024 ∧ st.1.2.1 = gs.length ∧ Only (fun _ => False) h h' ∧ WholeAt h' st.1.1 st.1.2.2 gs s.look ∧ Fresh h st.1.1 ∧ (∀ g ∈ gs, h.size ≤ g), fun st _ => (1024 - st.2.1).toNat,
    ⟨[], rfl, by simp, rfl, Only.refl _ _, ⟨Buf.nil _ _, fun i g hi => by simp at hi, fun g hg => (List.not_mem_nil hg).elim⟩, fun a ha => (by cases ha), fun g hg => (List.not_mem_nil hg).elim⟩, ?_⟩
  rintro ⟨⟨p, l, c⟩, i, ⟨⟩⟩ h' ⟨gs, hi, hgl, hl', ho, hw, hf, hgf⟩
  simp only at hi hl' hw hf ⊢
  subst hi hl'
  refine bsel_dec (fun h0 => ?_) fun h0 => ?_
  · have hd' := hd.only ho fun _ _ => id
    refine read_spec hd' hl (fun h1 => absurd ⟨by omega, by omega⟩ h1) (fun _ h1 => by rw [hdn] at h1; cases h1) fun _ _ h2 g ho2 hg2 hb2 => ?_
    refine onTup_of rfl ?_
    simp only [onSl]
    refine onTup_of rfl (onI_of ?_)
    refine bsel_ndec (fun h1 => (h1 rfl).elim) fun _ => bsel_ndec (fun h1 => (h1 rfl).elim) fun _ => ?_
    rw [fill1 (by rw [z40]; rfl) rfl]
    simp only [onO]
    have hnew := Blk.new h2 [slV g].toArray 40
    have ho3 : Only (fun _ => False) h2 (h2.push (.cells [slV g].toArray 40)) := (Only.refl _ _).push _
    have ho23 := ho2.trans ho3 fun _ _ x => x
    refine apnd_buf (by rw [z40]; rfl) (hw.buf.only ho23 fun _ _ => id) (ys := [slV g]) ⟨_, _, _, rfl, hnew, At.all _, by simp⟩ rfl (by decide) (fun v hv => by simp at hv; subst hv; rfl) (by omega) (by decide) ?_
    intro p' cap' h4 ho4 hb4 hp4
    simp only [onSl]
    have hpg : ∀ b, p = some (⟨b, 0, none⟩ : Addr) → b < h'.size := by
      intro b e; subst e; exact hw.buf.lt
    have hlt2 := hb2.lt
    have ho5 : Only (fun _ => False) h h4 := (ho.trans ho23 fun _ _ x => x).trans ho4 fun b' hb' e => by have := hf _ e; simp only at this; omega
    refine ⟨⟨gs ++ [g], ?_, ?_, ?_, ho5, ⟨?_, ?_, ?_⟩, ?_, ?_⟩, ?_⟩
    · rw [w64 (by omega) (by omega)]; simp
    · simp; omega
    · simp
    · simpa using hb4
    · intro j g' hj
      rw [List.getElem?_append] at hj
      split at hj
      · rename_i hjl
        have hmem := List.mem_of_getElem? hj
        refine ((hw.blk j g' hj).only ho23 id).only ho4 fun e => ?_
        exact hw.ne g' hmem _ e rfl
      · rename_i hjl
        have hj0 : j = gs.length := by
          rcases Nat.eq_or_lt_of_le (Nat.le_of_not_lt hjl) with e | e
          · exact e.symm
          · rw [List.getElem?_eq_none (by simp; omega)] at hj; cases hj
        subst hj0
        simp at hj; subst hj
        refine (hb2.only ho3 id).only ho4 fun e => ?_
        have := hpg _ e; omega
    · intro g' hg' a ha
      simp only [List.mem_append, List.mem_singleton] at hg'
      rcases hp4 with rfl | ⟨b', rfl, hb'⟩
      · rcases hg' with hg' | rfl
        · exact hw.ne g' hg' a ha
        · cases p' with
          | none => cases ha
          | some a' =>
            injection ha with ha; subst ha
            obtain ⟨b, cs, rfl, hbb, -⟩ := hw.buf
            have := hbb.lt; show b ≠ g'; omega
      · injection ha with ha; subst ha
        have hs3 : h2.size < b' := Nat.lt_of_lt_of_le (by simp) hb'
        show b' ≠ g'
        rcases hg' with hg' | rfl
        · obtain ⟨j, hj⟩ := List.getElem?_of_mem hg'
          have := (hw.blk j g' hj).lt; have := ho2.1; omega
        · omega
    · rcases hp4 with rfl | ⟨b', rfl, hb'⟩
      · exact hf
      · intro a ha; injection ha with ha; subst ha; show h.size ≤ b'; have hs3 : h2.size < b' := Nat.lt_of_lt_of_le (by simp) hb'; have := ho.1; have := ho2.1; omega
    · intro g' hg'
      simp only [List.mem_append, List.mem_singleton] at hg'
      rcases hg' with hg' | rfl
      · exact hgf g' hg'
      · have := ho.1; omega
    · rw [w64 (by omega) (by omega)]; omega
  · have : gs.length = 1024 := by omega
    rw [this]
    exact k h' p c gs ho this hw hf hgf

/-! ### Some sectors about one -/

theorem looked_spec {p : Option Addr} {cap : Nat} {gs : List Nat} {n m : Int} (hd : DiskAt h d B s) (hl : s.cache.length ≤ 1099511627776) (hdn : s.down = false) (hg : gs.length = 1024) (hw : WholeAt h p cap gs s.look)
    (k : ∀ h', Only (fun _ => False) h h' → K (.bool true) h') :
    Run tc.P 17 #[.pointer (some ⟨d, 0, none⟩), .slice p 1024 cap, .int .i64 n, .int .i64 m] h K := by
  apply L17_run; unfold L17
  generalize hat : IntKind.i64.wrap (Int.tmod (IntKind.u64.wrap ((IntKind.u64.wrap ((IntKind.u64.wrap n) * 32)) + (IntKind.u64.wrap m))) 1024) = at'
  have hr : 0 ≤ at' ∧ at' < 1024 := by
    rw [← hat, IntKind.wrap_u64]
    have h1 : 0 ≤ (IntKind.u64.wrap (IntKind.u64.wrap n * 32) + IntKind.u64.wrap m) % 18446744073709551616 := Int.emod_nonneg _ (by decide)
    rw [Int.tmod_eq_emod_of_nonneg h1, w64 (by omega) (by omega)]
    omega
  refine ⟨fun st h' => Only (fun _ => False) h h' ∧ 1023 ≤ st.1 ∧ st.1 ≤ 1026, fun st _ => (1026 - st.1).toNat, ⟨Only.refl _ _, by decide, by decide⟩, ?_⟩
  rintro ⟨i, ⟨⟩⟩ h' ⟨ho, hi1, hi2⟩
  simp only at hi1 hi2 ⊢
  refine bsel_dec (fun h0 => ?_) fun h0 => k h' ho
  rw [w64 (n := at' + i) (by omega) (by omega), Int.tmod_eq_emod_of_nonneg (by omega)]
  obtain ⟨P, hP⟩ : ∃ P : Nat, (at' + i) % 1024 = (P : Int) := ⟨((at' + i) % 1024).toNat, by omega⟩
  have hP2 : P < 1024 := by omega
  rw [hP]
  have hd' := hd.only ho fun _ _ => id
  refine read_spec hd' hl (fun h1 => absurd ⟨by omega, by omega⟩ h1) (fun _ h1 => by rw [hdn] at h1; cases h1) fun _ _ h2 g ho2 hg2 hb2 => ?_
  refine onTup_of rfl ?_
  simp only [onSl]
  refine onTup_of rfl (onI_of ?_)
  refine bsel_ndec (fun h1 => (h1 rfl).elim) fun _ => ⟨⟨by omega, by omega⟩, ?_⟩
  have hw2 := (hw.only ho (fun _ _ => id) fun _ _ => id).only ho2 (fun _ _ => id) fun _ _ => id
  have hPg : gs[P]? = some (gs[P]'(by omega)) := List.getElem?_eq_getElem (by omega)
  have hbuf := hw2.buf
  cases p with
  | none => have := hbuf.2.1; omega
  | some a =>
  obtain ⟨b, cs, rfl, hbb, hcs, hatt, -⟩ := hbuf
  simp only [onO, add_mk, Nat.zero_add, Int.toNat_natCast, Nat.mul_one]
  have hc := hatt P (slV (gs[P]'(by omega))) (by rw [List.getElem?_map, hPg]; rfl)
  rw [Nat.zero_add] at hc
  refine ldS_at hbb hc ?_
  have hbg := hw2.blk P _ hPg
  have hlen := hd.look_length P
  have hs1 : SlAt h2 (some ⟨g, 0, none⟩) (byV (s.look P)) := ⟨g, 0, _, rfl, by simpa using hb2, At.all _, by simp⟩
  have hs2 : SlAt h2 (some ⟨gs[P]'(by omega), 0, none⟩) (byV (s.look P)) := ⟨_, 0, _, rfl, hbg, At.all _, by simp⟩
  refine same_at hlen hlen hs1 hs2 ?_
  rw [decide_eq_true rfl]
  simp only [onB]
  refine bsel_nb (fun e => by cases e) fun _ => ?_
  rw [w64 (by omega) (by omega)]
  exact ⟨⟨ho.trans ho2 fun _ _ x => x, by omega, by omega⟩, by omega⟩

end Am
end Go.Proofs.Ytfijmoofdafoiaa
