/-
  The disk in the heap, and what the disk's functions do to it.
-/
import Derived.Test.YtfijmoofdafoiaaAmL
import Derived.Test.YtfijmoofdafoiaaAmH2
import Derived.Test.YtfijmoofdafoiaaAmZ
set_option linter.unusedSimpArgs false
set_option linter.unusedVariables false
set_option maxRecDepth 100000
namespace Go.Proofs.Ytfijmoofdafoiaa
open Go
namespace Am

/-! ### The disk -/

structure DSt where
  med : Nat → List UInt8
  cache : List (Nat × List UInt8)
  armed : Bool
  left : Int
  down : Bool
  acts : Int

def entV (e : Nat × List UInt8) : List Value := .int .i64 (e.1 : Int) :: byV e.2

def flatV (l : List (Nat × List UInt8)) : List Value := l.flatMap entV

def CacheAt (h : Hp) (d : Nat) (B : Option Nat) (cap : Nat) (l : List (Nat × List UInt8)) : Prop :=
  (∀ b, B = some b → b ≠ d) ∧ Buf h 129 (B.map (Addr.mk · 0 none)) l.length cap (flatV l)

def tailV (B : Option Nat) (cap : Nat) (s : DSt) : List Value :=
  [.slice (B.map (Addr.mk · 0 none)) s.cache.length cap, .bool s.armed, .int .i64 s.left, .bool s.down, .int .i64 s.acts]

structure DiskBox (h : Hp) (d : Nat) (B : Option Nat) (cap : Nat) (s : DSt) (cs : Array Value) : Prop where
  medl : ∀ n, (s.med n).length = 128
  ents : ∀ e ∈ s.cache, e.1 < 1024 ∧ e.2.length = 128
  blk : Blk h d cs
  size : cs.size = 131077
  med : ∀ n, n < 1024 → At cs (n * 128) (byV (s.med n))
  tail : At cs 131072 (tailV B cap s)
  cache : CacheAt h d B cap s.cache

def DiskAt (h : Hp) (d : Nat) (B : Option Nat) (s : DSt) : Prop := ∃ cap cs, DiskBox h d B cap s cs

def dOwn (d : Nat) (B : Option Nat) (b : Nat) : Prop := b = d ∨ B = some b

variable {S S' : Nat → Prop} {h h' h'' : Hp} {d : Nat} {B : Option Nat} {cap : Nat} {s : DSt} {cs : Array Value} {K : Value → Hp → Prop}

theorem off_map {B : Option Nat} (hn : ∀ b, B = some b → ¬ S b) : Off (B.map (Addr.mk · 0 none)) S := by
  intro a ha
  cases B with
  | none => simp at ha
  | some b => simp at ha; subst ha; exact hn b rfl

theorem CacheAt.only {l : List (Nat × List UInt8)} (hc : CacheAt h d B cap l) (ho : Only S h h') (hn : ∀ b, B = some b → ¬ S b) : CacheAt h' d B cap l := ⟨hc.1, hc.2.only ho (off_map hn)⟩

theorem DiskBox.only (hb : DiskBox h d B cap s cs) (ho : Only S h h') (hd : ¬ S d) (hn : ∀ b, B = some b → ¬ S b) : DiskBox h' d B cap s cs where
  medl := hb.medl
  ents := hb.ents
  blk := hb.blk.only ho hd
  size := hb.size
  med := hb.med
  tail := hb.tail
  cache := hb.cache.only ho hn

theorem DiskAt.only (hd : DiskAt h d B s) (ho : Only S h h') (hn : ∀ b, dOwn d B b → ¬ S b) : DiskAt h' d B s := by
  obtain ⟨cap, cs, hb⟩ := hd; exact ⟨cap, cs, hb.only ho (hn _ (.inl rfl)) fun b hb => hn _ (.inr hb)⟩

theorem DiskAt.lt (hd : DiskAt h d B s) : d < h.size := by obtain ⟨cap, cs, hb⟩ := hd; exact hb.blk.lt
theorem DiskAt.ltB (hd : DiskAt h d B s) {b : Nat} (hb : B = some b) : b < h.size := by
  obtain ⟨cap, cs, hx⟩ := hd
  have := hx.cache.2; subst hb; exact Buf.lt this
theorem DiskAt.neB (hd : DiskAt h d B s) {b : Nat} (hb : B = some b) : b ≠ d := by
  obtain ⟨cap, cs, hx⟩ := hd
  exact hx.cache.1 b hb

theorem DiskBox.get (hb : DiskBox h d B cap s cs) : cs[131072]? = some (.slice (B.map (Addr.mk · 0 none)) s.cache.length cap) ∧ cs[131073]? = some (.bool s.armed) ∧ cs[131074]? = some (.int .i64 s.left) ∧ cs[131075]? = some (.bool s.down) ∧ cs[131076]? = some (.int .i64 s.acts) :=
  ⟨hb.tail 0 _ rfl, hb.tail 1 _ rfl, hb.tail 2 _ rfl, hb.tail 3 _ rfl, hb.tail 4 _ rfl⟩

theorem At.splice_set {xs : List Value} {o k : Nat} {v : Value} (ha : At cs o xs) (hk : k < xs.length) : At (splice cs (o + k) #[v]) o (xs.set k v) := by
  have hle := ha.le (by rintro rfl; simp at hk)
  intro j x hj
  rw [splice_get (by simp; omega)]
  rw [List.getElem?_set] at hj
  split at hj
  · rename_i e; subst e; rw [if_pos (by simp)]; simp [hk] at hj; simp [hj]
  · rename_i e; rw [if_neg (by simp; omega)]; exact ha j x hj

theorem entV_length {e : Nat × List UInt8} (he : e.2.length = 128) : (entV e).length = 129 := by simp [entV, byV_length, he]

/-- The cache's block, where there is one. -/
theorem DiskBox.row (hb : DiskBox h d B cap s cs) {i : Nat} {e : Nat × List UInt8} (hi : s.cache[i]? = some e) : ∃ b cc, B = some b ∧ Blk h b cc ∧ At cc (i * 129) (entV e) := by
  have hc := hb.cache.2
  cases hB : B with
  | none => rw [hB] at hc; have := hc.2.1; rw [List.length_eq_zero_iff] at this; rw [this] at hi; simp at hi
  | some b =>
    rw [hB] at hc
    obtain ⟨b', cc, he, hbc, hcs, ha, -⟩ := hc
    simp at he; subst he
    refine ⟨_, cc, rfl, hbc, ?_⟩
    have := At.flat (f := entV) (n := 129) (l := s.cache) (o := 0) (fun e he => entV_length (hb.ents e he).2) ha hi
    simpa using this

/-- One of the last four cells is written. -/
theorem DiskBox.tailSet (hb : DiskBox h d B cap s cs) {s' : DSt} {k : Nat} {v : Value} (hm : s'.med = s.med) (hc : s'.cache = s.cache) (hk : k < 5) (ht : (tailV B cap s).set k v = tailV B cap s') :
    DiskBox (setB h d (splice cs (131072 + k) #[v])) d B cap s' (splice cs (131072 + k) #[v]) where
  medl := by rw [hm]; exact hb.medl
  ents := by rw [hc]; exact hb.ents
  blk := hb.blk.setB
  size := by rw [splice_size (by simp [hb.size]; omega)]; exact hb.size
  med := fun n hn => by
    rw [hm]
    exact (hb.med n hn).splice_off (by simp [hb.size]; omega) (.inl (by rw [byV_length, hb.medl]; omega))
  tail := by rw [← ht]; exact hb.tail.splice_set hk
  cache := by
    rw [hc]
    exact hb.cache.only ((Only.refl (fun b => b = d) h).set (.inl rfl)) hb.cache.1

end Am
end Go.Proofs.Ytfijmoofdafoiaa
