/-
  Writing a sector; the cache's way to the medium; a crash.
-/
import Derived.Test.YtfijmoofdafoiaaAmK
set_option linter.unusedSimpArgs false
set_option linter.unusedVariables false
set_option maxRecDepth 100000
namespace Go.Proofs.Ytfijmoofdafoiaa
open Go
namespace Am

variable {S S' : Nat → Prop} {h h' h'' : Hp} {d : Nat} {B : Option Nat} {cap : Nat} {s : DSt} {cs : Array Value} {K : Value → Hp → Prop}

theorem setB_eq (h : Hp) {g : Nat} {cs cs' : Array Value} (hb : Blk h g cs) : setB (setB h g cs') g cs = h := by
  obtain ⟨e, he⟩ := hb
  apply Array.ext_getElem?
  intro i
  by_cases hi : i = g
  · subst hi; simp [setB, Array.getElem?_modify, he]
  · rw [setB_ne _ _ hi, setB_ne _ _ hi]

def DSt.put (s : DSt) (n : Nat) (bs : List UInt8) : DSt := { s with cache := s.cache ++ [(n, bs)] }

def DSt.write (s : DSt) (n : Int) (bs : List UInt8) : Int × DSt :=
  if ¬ (0 ≤ n ∧ n < 1024) then (40, s)
  else if bs.length ≠ 128 then (41, s)
  else if s.act.1 then (0, s.act.2.put n.toNat bs) else (42, s.act.2)

theorem DSt.act_med (s : DSt) : s.act.2.med = s.med := by
  unfold DSt.act; split
  · rfl
  · split
    · split <;> rfl
    · rfl
theorem DSt.act_cache (s : DSt) : s.act.2.cache = s.cache := by
  unfold DSt.act; split
  · rfl
  · split
    · split <;> rfl
    · rfl

theorem flatV_append (l : List (Nat × List UInt8)) (e : Nat × List UInt8) : flatV (l ++ [e]) = flatV l ++ entV e := by simp [flatV, List.flatMap_append]

theorem entV_one (e : Nat × List UInt8) : ∀ v ∈ entV e, v.oneCell' = true := by
  intro v hv
  rcases List.mem_cons.1 hv with rfl | hv
  · rfl
  · exact byV_one _ v hv

/-- The cache's slice is laid into its cell. -/
theorem DiskBox.newCache (hb : DiskBox h d B cap s cs) {h' : Hp} {B' : Option Nat} {cap' n : Nat} {bs : List UInt8} (hl : bs.length = 128) (hn : n < 1024)
    (ho : Only (dOwn d B) h h') (hd : Blk h' d cs) (hB : ∀ b, B' = some b → b ≠ d) (hbuf : Buf h' 129 (B'.map (Addr.mk · 0 none)) (s.cache.length + 1) cap' (flatV (s.cache ++ [(n, bs)]))) :
    DiskBox (setB h' d (splice cs (131072 + 0) #[.slice (B'.map (Addr.mk · 0 none)) (s.cache.length + 1) cap'])) d B' cap' (s.put n bs) (splice cs (131072 + 0) #[.slice (B'.map (Addr.mk · 0 none)) (s.cache.length + 1) cap']) where
  medl := hb.medl
  ents := fun e he => by
    simp only [DSt.put, List.mem_append, List.mem_singleton] at he
    rcases he with he | rfl
    · exact hb.ents e he
    · exact ⟨hn, hl⟩
  blk := hd.setB
  size := by rw [splice_size (by simp [hb.size])]; exact hb.size
  med := fun m hm => (hb.med m hm).splice_off (by simp [hb.size]) (.inl (by rw [byV_length]; have := hb.medl m; show m * 128 + (s.med m).length ≤ _; omega))
  tail := by
    have := hb.tail.splice_set (k := 0) (v := .slice (B'.map (Addr.mk · 0 none)) (s.cache.length + 1) cap') (by simp [tailV])
    simpa [tailV, DSt.put] using this
  cache := by
    refine ⟨hB, ?_⟩
    have := hbuf.only ((Only.refl (fun b => b = d) h').setd (splice cs (131072 + 0) #[.slice (B'.map (Addr.mk · 0 none)) (s.cache.length + 1) cap'])) (off_map hB)
    simpa [DSt.put] using this

theorem szIs_of {n m : Nat} {Q : Prop} (e : n = m) (q : Q) : szIs n m Q := by unfold szIs; rw [if_pos e]; exact q

theorem fillAll {z : List Value} {cs : Array Value} {n : Nat} (hz : z.length = n) (hc : cs.size = n) : fillL z [(0, n, .agg cs)] = some cs.toList := by
  unfold fillL
  have e : (Value.agg cs).cells = cs := rfl
  rw [e, if_pos ⟨hc, by omega⟩, List.drop_of_length_le (by omega)]
  simp [fillL]

theorem z93_ex : ∃ zb : List UInt8, zb.length = 128 ∧ (zeroOf tc.P 93).toList = Value.int .i64 0 :: byV zb :=
  ⟨List.replicate 128 0, List.length_replicate, by rw [z93]; unfold byV; rw [List.map_replicate]; rfl⟩

theorem write_spec {n : Int} {p : Option Addr} {bs : List UInt8} {c : Nat} (hd : DiskAt h d B s) (hl : s.cache.length ≤ 1099511627) (hp : SlAt h p (byV bs)) (hpd : Off p (Od d))
    (k : ∀ h' B', Only (dOwn d B) h h' → DiskAt h' d B' (s.write n bs).2 → (∀ b, B' = some b → B = some b ∨ h.size ≤ b) → K (.int .i64 (s.write n bs).1) h') :
    Run tc.P 31 #[.pointer (some ⟨d, 0, none⟩), .int .i64 n, .slice p bs.length c] h K := by
  apply L31_run; unfold L31; simp only [onPtr, add_mk, Nat.zero_add]
  refine there_spec ?_
  simp only [onB]
  refine bsel_ndec (fun hn => ?_) fun hn => ?_
  · have e : s.write n bs = (40, s) := by simp only [DSt.write]; rw [if_pos hn]
    rw [e] at k; exact k h B (Only.refl _ _) hd fun b hb => .inl hb
  refine bsel_ndec (fun h0 => ?_) fun h0 => ?_
  · have e : s.write n bs = (41, s) := by simp only [DSt.write]; rw [if_neg (by simpa using hn), if_pos (by omega)]
    rw [e] at k; exact k h B (Only.refl _ _) hd fun b hb => .inl hb
  have hbl : bs.length = 128 := by omega
  obtain ⟨N, rfl⟩ : ∃ N : Nat, n = (N : Int) := ⟨n.toNat, by omega⟩
  have hN : N < 1024 := by omega
  refine act_spec hd fun h1 ho1 hd1 => ?_
  have hltd := hd.lt
  refine bsel_nb (fun h2 => ?_) fun h2 => ?_
  · have e : s.write N bs = (42, s.act.2) := by simp only [DSt.write]; rw [if_neg (by simpa using hn), if_neg (by omega), h2]; rfl
    rw [e] at k; exact k h1 B (ho1.mono fun b _ e => .inl e) hd1 fun b hb => .inl hb
  have e : s.write N bs = (0, s.act.2.put N bs) := by simp only [DSt.write]; rw [if_neg (by simpa using hn), if_neg (by omega), h2]; rfl
  rw [e] at k
  have hp1 := hp.only ho1 hpd
  have hl1 : s.act.2.cache.length ≤ 1099511627 := by rw [s.act_cache]; exact hl
  generalize s.act.2 = t at *
  obtain ⟨cap, cs, hb⟩ := id hd1
  obtain ⟨zb, hzb, hz⟩ := z93_ex
  have hf : fillL (zeroOf tc.P 93).toList [(0, 1, (.int .i64 (N : Int)))] = some (Value.int .i64 N :: byV zb) := by
    rw [hz]; rfl
  have hv : (byV bs).length = 128 := by rw [byV_length, hbl]
  have hr : (byV zb).length = 128 := by rw [byV_length, hzb]
  rw [hf]
  simp only [onO]
  have hgs : (Value.int .i64 N :: byV zb).toArray.size = 129 := by simp [hr]
  refine szIs_of hgs ?_
  have hb0 : Blk (h1.push (.cells (zeroOf tc.P 93) 93)) h1.size (zeroOf tc.P 93) := Blk.new _ _ _
  have hzs : (zeroOf tc.P 93).size = 129 := by rw [← Array.length_toList, hz]; simp [hr]
  refine st_at hb0 (by rw [hgs, hzs]; decide) (fun v hv => entV_one (N, zb) v hv) ?_
  have hs0 : splice (zeroOf tc.P 93) 0 (Value.int .i64 N :: byV zb).toArray = (Value.int .i64 N :: byV zb).toArray := by
    simp only [splice, List.take_zero, List.nil_append]
    rw [List.drop_of_length_le (by rw [hgs, Array.length_toList, hzs]; decide)]; simp
  rw [hs0]
  have hb1 : Blk (setB (h1.push (.cells (zeroOf tc.P 93) 93)) h1.size (Value.int .i64 N :: byV zb).toArray) h1.size (Value.int .i64 N :: byV zb).toArray := hb0.setB
  have ho2 : Only (fun _ => False) h1 (setB (h1.push (.cells (zeroOf tc.P 93) 93)) h1.size (Value.int .i64 N :: byV zb).toArray) := ((Only.refl _ _).push _).set (.inr (Nat.le_refl _))
  generalize hH2 : setB (h1.push (.cells (zeroOf tc.P 93) 93)) h1.size (Value.int .i64 N :: byV zb).toArray = h2 at *
  have hsz2 : h2.size = h1.size + 1 := by rw [← hH2, setB_size]; simp
  simp only [cpy, onSl, slAddr]
  rw [if_neg (by decide)]
  simp only [Option.map_some, add_mk]
  have hp2 := hp1.only ho2 (fun _ _ => id)
  refine ⟨(byV bs).toArray, ?_, ?_⟩
  · have := hp2.row (n := 128) hv
    rw [hbl]
    cases p with
    | none => simp at this
    | some a => simpa using this
  refine st_at hb1 (by rw [hgs]; simp [hv]) (fun v hx => byV_one bs v (by simpa using hx)) ?_
  have hs1 : splice (Value.int .i64 N :: byV zb).toArray (1 + 0 * 1) (byV bs).toArray = (entV (N, bs)).toArray := by
    simp only [splice, Nat.zero_mul, Nat.add_zero, List.take_succ_cons, List.take_zero]
    rw [List.drop_of_length_le (by simp [hv, hr])]; simp [entV]
  rw [hs1]
  have hb2 := hb1.setB (cs' := (entV (N, bs)).toArray)
  have ho3 : Only (fun _ => False) h1 (setB h2 h1.size (entV (N, bs)).toArray) := ho2.set (.inr (Nat.le_refl _))
  generalize hH3 : setB h2 h1.size (entV (N, bs)).toArray = h3 at *
  have hsz3 : h3.size = h1.size + 1 := by rw [← hH3, setB_size, hsz2]
  have hbx3 := hb.only ho3 id (fun _ _ => id)
  have he : (entV (N, bs)).length = 129 := entV_length hbl
  refine ldS_at hbx3.blk hbx3.get.1 (ldR_at hb2 (At.all _) he (by simp [he]) ?_)
  have hf2 : fillL (zerosN (zeroOf tc.P 93) (1 * 129)).toList [(0, 129, (.agg (entV (N, bs)).toArray))] = some (entV (N, bs)) := by
    exact fillAll (by unfold zerosN; simp) (by simp [he])
  rw [hf2]
  simp only [onO]
  have ho4 : Only (fun _ => False) h1 (h3.push (.cells (entV (N, bs)).toArray 93)) := ho3.push _
  refine ⟨fun b hb => ((Only.refl (fun _ => False) h3).push _).2 b hb id, ?_⟩
  have hbx4 := hb.only ho4 id (fun _ _ => id)
  have hnew := Blk.new h3 (entV (N, bs)).toArray 93
  generalize hH4 : h3.push (.cells (entV (N, bs)).toArray 93) = h4 at *
  refine apnd_buf hzs hbx4.cache.2 (ys := entV (N, bs)) ⟨_, _, _, rfl, hnew, At.all _, by simp⟩ (by rw [he]) (by decide) (entV_one _) (by omega) (by decide) ?_
  intro p' cap' h5 ho5 hbuf hp'
  obtain ⟨B', rfl, hB'⟩ : ∃ B' : Option Nat, p' = B'.map (Addr.mk · 0 none) ∧ ∀ b, B' = some b → B = some b ∨ h4.size ≤ b := by
    rcases hp' with rfl | ⟨b, rfl, hb⟩
    · exact ⟨B, rfl, fun b hb => .inl hb⟩
    · exact ⟨some b, rfl, fun b' hb' => .inr (by injection hb' with e; omega)⟩
  have hne : ∀ b, B' = some b → b ≠ d := by
    intro b hb'
    rcases hB' b hb' with k | k
    · exact hd1.neB k
    · have := hbx4.blk.lt; omega
  have hown : ∀ b, (B.map (Addr.mk · 0 none)) = some (⟨b, 0, none⟩ : Addr) → B = some b := by
    intro b hb'
    cases B with
    | none => simp at hb'
    | some b' => simp at hb'; rw [hb']
  have hblk5 : Blk h5 d cs := hbx4.blk.only ho5 (fun hx => hd1.neB (hown d hx) rfl)
  have ho5' : Only (dOwn d B) h1 h5 := (ho4.mono fun _ _ x => x.elim).trans ho5 fun b _ hx => .inr (hown b hx)
  refine szIs_of rfl ?_
  show st h5 _ #[_] _
  refine st_at hblk5 (by simp [hb.size]) (one_ok _ rfl) ?_
  have hbox := hb.newCache hbl hN ho5' hblk5 hne (by rw [flatV_append]; exact hbuf)
  refine k _ B' ?_ ⟨cap', _, hbox⟩ ?_
  · refine (ho1.mono fun b _ e => .inl e : Only (dOwn d B) h h1).trans (ho5'.set (.inl (.inl rfl))) fun _ _ x => x
  · intro b hb'
    rcases hB' b hb' with k | k
    · exact .inl k
    · refine .inr ?_
      have := ho1.1; have := ho4.1; omega

end Am
end Go.Proofs.Ytfijmoofdafoiaa
