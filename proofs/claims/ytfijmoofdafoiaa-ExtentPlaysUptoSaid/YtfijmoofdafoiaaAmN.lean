/-
  The cache's way to the medium: drain, flush, crash; what waits; a new disk.
-/
import Derived.Test.YtfijmoofdafoiaaAmM
set_option linter.unusedSimpArgs false
set_option linter.unusedVariables false
set_option maxRecDepth 100000
namespace Go.Proofs.Ytfijmoofdafoiaa
open Go
namespace Am

variable {S S' : Nat → Prop} {h h' h'' : Hp} {d : Nat} {B : Option Nat} {cap : Nat} {s : DSt} {cs : Array Value} {K : Value → Hp → Prop}

def upd {α : Type} (m : Nat → α) (n : Nat) (x : α) : Nat → α := fun k => if k = n then x else m k

def drainM (kept : Nat → Bool) : Nat → List (Nat × List UInt8) → (Nat → List UInt8) → (Nat → List UInt8)
  | _, [], m => m
  | i, e :: r, m => drainM kept (i + 1) r (if kept i then upd m e.1 e.2 else m)

def drainN (kept : Nat → Bool) : Nat → List (Nat × List UInt8) → Nat
  | _, [] => 0
  | i, _ :: r => (if kept i then 1 else 0) + drainN kept (i + 1) r

theorem drainN_le (kept : Nat → Bool) : ∀ (l : List (Nat × List UInt8)) (i : Nat), drainN kept i l ≤ l.length := by
  intro l
  induction l with
  | nil => intro i; exact Nat.le_refl _
  | cons e r ih => intro i; have := ih (i + 1); simp only [drainN, List.length_cons]; split <;> omega

def DSt.drain (s : DSt) (kept : Nat → Bool) : DSt := { s with med := drainM kept 0 s.cache s.med, cache := [] }

theorem DiskBox.medSet (hb : DiskBox h d B cap s cs) {n : Nat} {bs : List UInt8} (hn : n < 1024) (hl : bs.length = 128) :
    DiskBox (setB h d (splice cs (n * 128) (byV bs).toArray)) d B cap { s with med := upd s.med n bs } (splice cs (n * 128) (byV bs).toArray) := by
  have hv : (byV bs).length = 128 := by rw [byV_length, hl]
  have hroom : n * 128 + (byV bs).toArray.size ≤ cs.size := by rw [List.size_toArray, hv, hb.size]; omega
  refine ⟨fun m => ?_, hb.ents, hb.blk.setB, by rw [splice_size hroom, hb.size], fun m hm => ?_, ?_, ?_⟩
  · show (if m = n then bs else s.med m).length = 128
    split
    · exact hl
    · exact hb.medl m
  · show At _ _ (byV (if m = n then bs else s.med m))
    split
    · rename_i e; subst e; exact At.splice_self hroom
    · exact (hb.med m hm).splice_off hroom (by rw [byV_length, hb.medl, List.size_toArray, hv]; omega)
  · exact hb.tail.splice_off hroom (.inr (by rw [List.size_toArray, hv]; omega))
  · exact hb.cache.only ((Only.refl (fun b => b = d) h).setd _) hb.cache.1

theorem DiskBox.clear (hb : DiskBox h d B cap s cs) : DiskBox (setB h d (splice cs (131072 + 0) #[.slice none 0 0])) d none 0 { s with cache := [] } (splice cs (131072 + 0) #[.slice none 0 0]) := by
  refine ⟨hb.medl, fun e he => (List.not_mem_nil he).elim, hb.blk.setB, by rw [splice_size (by simp [hb.size]), hb.size], fun m hm => ?_, ?_, ?_⟩
  · exact (hb.med m hm).splice_off (by simp [hb.size]) (.inl (by rw [byV_length, hb.medl]; omega))
  · have := hb.tail.splice_set (k := 0) (v := .slice none 0 0) (by simp [tailV])
    simpa [tailV] using this
  · exact ⟨fun b hb => (by cases hb), rfl, rfl, rfl⟩

theorem drain_spec {f : Value} {kept : Nat → Bool} (hd : DiskAt h d B s) (hl : s.cache.length ≤ 1099511627776)
    (hk : ∀ h' (i : Nat) (K' : Value → Hp → Prop), Only (Od d) h h' → i < s.cache.length → K' (.bool (kept i)) h' → callV tc f #[.int .i64 i] h' K')
    (k : ∀ h', Only (Od d) h h' → DiskAt h' d none (s.drain kept) → K (.int .i64 (drainN kept 0 s.cache : Nat)) h') : Run tc.P 40 #[.pointer (some ⟨d, 0, none⟩), f] h K := by
  apply L40_run; unfold L40; simp only [onPtr, add_mk, Nat.zero_add]
  obtain ⟨cap, cs, hb⟩ := id hd
  refine ldS_at hb.blk hb.get.1 ?_
  refine ⟨fun st h' => ∃ I c : Nat, st.2.1 = (I : Int) ∧ st.1 = (c : Int) ∧ I ≤ s.cache.length ∧ Only (Od d) h h' ∧ c + drainN kept I (s.cache.drop I) = drainN kept 0 s.cache ∧
      ∃ m cs, DiskBox h' d B cap { s with med := m } cs ∧ drainM kept I (s.cache.drop I) m = drainM kept 0 s.cache s.med, fun st _ => ((s.cache.length : Int) - st.2.1).toNat,
    ⟨0, 0, rfl, rfl, Nat.zero_le _, Only.refl _ _, by simp, s.med, cs, hb, rfl⟩, ?_⟩
  rintro ⟨c, i, ⟨⟩⟩ h' ⟨I, c, hI, hc, hIl, ho, hN, m, cs', hb', hM⟩
  simp only at hI hc
  subst hI hc
  refine bsel_dec (fun h0 => ?_) fun h0 => ?_
  · have hI : I < s.cache.length := by simp only at h0; omega
    have hIe : s.cache[I]? = some s.cache[I] := List.getElem?_eq_getElem hI
    have hdrop : s.cache.drop I = s.cache[I] :: s.cache.drop (I + 1) := List.drop_eq_getElem_cons hI
    have hent := hb.ents _ (List.getElem_mem hI)
    generalize s.cache[I] = e at *
    obtain ⟨b, cc, hB, hbc, ha⟩ := hb'.row (e := e) hIe
    have hel := entV_length hent.2
    have hale := ha.le (by simp [entV])
    rw [hel] at hale
    refine ⟨⟨by simp, h0⟩, ?_⟩
    subst hB
    simp only [Option.map_some, onO, add_mk, Nat.zero_add, Int.toNat_natCast]
    refine ldR_at hbc ha hel hale (szIs_of (by simpa using hel) ?_)
    have hb0 : Blk (h'.push (.cells (zeroOf tc.P 93) 93)) h'.size (zeroOf tc.P 93) := Blk.new _ _ _
    have hzs : (zeroOf tc.P 93).size = 129 := by obtain ⟨zb, hzb, hz⟩ := z93_ex; rw [← Array.length_toList, hz]; simp [byV_length, hzb]
    refine st_at hb0 (by rw [hzs, List.size_toArray, hel]; decide) (entV_one e) ?_
    have hs0 : splice (zeroOf tc.P 93) 0 (entV e).toArray = (entV e).toArray := by
      simp only [splice, List.take_zero, List.nil_append]
      rw [List.drop_of_length_le (by rw [List.size_toArray, hel, Array.length_toList, hzs]; decide)]; simp
    rw [hs0]
    have hb1 := hb0.setB (cs' := (entV e).toArray)
    have ho1 : Only (fun _ => False) h' (setB (h'.push (.cells (zeroOf tc.P 93) 93)) h'.size (entV e).toArray) := ((Only.refl _ _).push _).set (.inr (Nat.le_refl _))
    have hbx := hb'.only ho1 id (fun _ _ => id)
    have ho2 : Only (Od d) h (setB (h'.push (.cells (zeroOf tc.P 93) 93)) h'.size (entV e).toArray) := ho.trans ho1 fun _ _ x => x.elim
    have hdlt := hb'.blk.lt
    generalize hH : setB (h'.push (.cells (zeroOf tc.P 93) 93)) h'.size (entV e).toArray = h1 at *
    refine hk h1 I _ ho2 hI ?_
    simp only [onB]
    rw [hdrop] at hN hM
    simp only [drainN, drainM] at hN hM
    refine bsel_b (fun h1k => ?_) fun h1k => ?_
    · rw [h1k] at hN hM
      simp only [if_true] at hN hM
      refine ldI_at hb1 (At.all (entV e) 0 _ rfl) (ldR_at hb1 (xs := byV e.2) (At.cons_iff.1 (At.all (entV e))).2 (by rw [byV_length, hent.2]) (by rw [List.size_toArray, hel]; decide) ?_)
      refine ⟨⟨by simp, by have := hent.1; omega⟩, szIs_of (by rw [List.size_toArray, byV_length, hent.2]) ?_⟩
      simp only [Int.toNat_natCast, Nat.zero_add]
      have hbm := hbx.medSet hent.1 hent.2
      refine st_at hbx.blk (by rw [List.size_toArray, byV_length, hent.2, hbx.size]; have := hent.1; omega) (fun v hv => byV_one _ v hv) ?_
      refine ⟨⟨I + 1, c + 1, ?_, ?_, by omega, ho2.setd _, by omega, _, _, hbm, hM⟩, ?_⟩
      · rw [w64 (by omega) (by omega)]; rfl
      · rw [w64 (by omega) (by have := drainN_le kept s.cache 0; omega)]; rfl
      · rw [w64 (by omega) (by omega)]; omega
    · rw [h1k] at hN hM
      simp only [Bool.false_eq_true, if_false] at hN hM
      refine ⟨⟨I + 1, c, ?_, rfl, by omega, ho2, by omega, _, _, hbx, hM⟩, ?_⟩
      · rw [w64 (by omega) (by omega)]; rfl
      · rw [w64 (by omega) (by omega)]; omega
  · have : I = s.cache.length := by simp only at h0; omega
    subst this
    simp only [List.drop_length, drainM, drainN] at hM hN
    refine st_at hb'.blk (by simp [hb'.size]) (one_ok _ rfl) ?_
    rw [show c = drainN kept 0 s.cache from by omega]
    have := hb'.clear
    rw [hM] at this
    exact k _ (ho.setd _) ⟨0, _, this⟩

theorem call93 {h : Hp} {i : Nat} {K' : Value → Hp → Prop} (k : K' (.bool true) h) : callV tc (.func (.func 93) #[] #[]) #[.int .i64 i] h K' := by
  simp only [callV]
  rw [if_pos (by decide)]
  exact L93_run _ _ _ (by unfold L93; exact k)

def DSt.flush (s : DSt) : Int × DSt := if s.act.1 then (0, s.act.2.drain fun _ => true) else (42, s.act.2)

theorem flush_spec (hd : DiskAt h d B s) (hl : s.cache.length ≤ 1099511627776)
    (k : ∀ h' B', Only (Od d) h h' → DiskAt h' d B' s.flush.2 → (B' = B ∨ B' = none) → K (.int .i64 s.flush.1) h') : Run tc.P 92 #[.pointer (some ⟨d, 0, none⟩)] h K := by
  apply L92_run; unfold L92
  refine act_spec hd fun h1 ho1 hd1 => ?_
  simp only [onB]
  refine bsel_nb (fun h2 => ?_) fun h2 => ?_
  · have e : s.flush = (42, s.act.2) := by simp [DSt.flush, h2]
    rw [e] at k; exact k h1 B ho1 hd1 (.inl rfl)
  have e : s.flush = (0, s.act.2.drain fun _ => true) := by simp [DSt.flush, h2]
  rw [e] at k
  refine drain_spec (kept := fun _ => true) hd1 (by rw [s.act_cache]; exact hl) (fun h' i K' ho hi hk => call93 hk) fun h3 ho3 hd3 => ?_
  simp only [onI, if_true]
  exact k h3 none (ho1.trans ho3 fun _ _ x => x) hd3 (.inr rfl)

def keptOf (l : List Bool) (i : Nat) : Bool := l.getD i false

theorem call41 {h : Hp} {g : Nat} {p : Option Addr} {l : List Bool} {c i : Nat} {K' : Value → Hp → Prop} (hg : Blk h g #[.slice p l.length c]) (hp : SlAt h p (l.map .bool)) (k : K' (.bool (keptOf l i)) h) :
    callV tc (.func (.func 41) #[] #[.pointer (some ⟨g, 0, none⟩)]) #[.int .i64 i] h K' := by
  simp only [callV]
  rw [if_pos (by decide)]
  refine L41_run _ _ _ _ ?_
  unfold L41
  simp only [onPtr]
  refine ldS_at hg rfl (bsel_dec (fun h0 => ?_) fun h0 => ?_)
  · refine ldS_at hg rfl ⟨⟨by simp, h0⟩, ?_⟩
    have hi : i < l.length := by omega
    cases p with
    | none =>
      simp only [SlAt, List.map_eq_nil_iff] at hp; rw [hp] at hi; simp at hi
    | some a =>
      obtain ⟨b, o, cs, rfl, hb, ha, hle⟩ := hp
      simp only [onO, add_mk, Int.toNat_natCast, Nat.mul_one]
      refine ldB_at hb (ha i (.bool (l[i])) (by simp [hi])) ?_
      have : keptOf l i = l[i] := by simp [keptOf, hi]
      rw [this] at k; exact k
  · have : keptOf l i = false := by
      unfold keptOf; rw [List.getD_eq_getElem?_getD, List.getElem?_eq_none (by omega)]; rfl
    rw [this] at k; exact k

def DSt.crash (s : DSt) (l : List Bool) : DSt := { s.drain (keptOf l) with armed := false, down := false, left := 0 }

theorem crash_spec {p : Option Addr} {l : List Bool} {c : Nat} (hd : DiskAt h d B s) (hl : s.cache.length ≤ 1099511627776) (hp : SlAt h p (l.map .bool)) (hpd : Off p (Od d))
    (k : ∀ h', Only (Od d) h h' → DiskAt h' d none (s.crash l) → K (.int .i64 (drainN (keptOf l) 0 s.cache : Nat)) h') : Run tc.P 26 #[.pointer (some ⟨d, 0, none⟩), .slice p l.length c] h K := by
  apply L26_run; unfold L26; simp only [onPtr, add_mk, Nat.zero_add]
  have ho0 : Only (fun _ => False) h (h.push (.cells #[.slice p l.length c] 52)) := (Only.refl _ _).push _
  have hg := Blk.new h #[.slice p l.length c] 52
  have hlt := hd.lt
  refine drain_spec (kept := keptOf l) (hd.only ho0 fun _ _ => id) hl (fun h' i K' ho hi hk => call41 (hg.only ho (by show ¬ (h.size = d); omega)) ((hp.only ho0 fun _ _ => id).only ho hpd) hk) fun h1 ho1 hd1 => ?_
  obtain ⟨cap, cs, hb⟩ := hd1
  have hb1 := hb.tailSet (s' := { s.drain (keptOf l) with armed := false }) (k := 1) (v := .bool false) rfl rfl (by omega) rfl
  have hb2 := hb1.tailSet (s' := { s.drain (keptOf l) with armed := false, down := false }) (k := 3) (v := .bool false) rfl rfl (by omega) rfl
  have hb3 := hb2.tailSet (s' := s.crash l) (k := 2) (v := .int .i64 0) rfl rfl (by omega) rfl
  simp only [onI, if_true]
  refine st_at hb.blk (by simp [hb.size]) (one_ok _ rfl) (st_at hb1.blk (by simp [hb1.size]) (one_ok _ rfl) (st_at hb2.blk (by simp [hb2.size]) (one_ok _ rfl) ?_))
  exact k _ (((((ho0.mono fun _ _ x => x.elim : Only (Od d) h _).trans ho1 fun _ _ x => x).setd _).setd _).setd _) ⟨_, _, hb3⟩

def DSt.init : DSt := { med := fun _ => List.replicate 128 0, cache := [], armed := false, left := 0, down := false, acts := 0 }

theorem new_spec (k : ∀ h', Only (fun _ => False) h h' → DiskAt h' h.size none DSt.init → K (.pointer (some ⟨h.size, 0, none⟩)) h') : Run tc.P 18 #[] h K := by
  apply L18_run; unfold L18
  refine k _ ((Only.refl _ _).push _) ⟨0, (zeroOf tc.P 89).toList.toArray, ?_⟩
  have hat := At.all (zeroOf tc.P 89).toList
  have hsz : (zeroOf tc.P 89).toList.toArray.size = 131077 := by rw [Array.toArray_toList]; exact z89_size
  have hsp := z89_split
  generalize (zeroOf tc.P 89).toList = l at *
  rw [hsp] at hat
  refine ⟨fun n => List.length_replicate, fun e he => (List.not_mem_nil he).elim, Blk.new _ _ _, hsz, fun n hn => ?_, ?_, ⟨fun b hb => (by cases hb), rfl, rfl, rfl⟩⟩
  · intro j x hj
    have hj' := (List.getElem?_eq_some_iff.1 hj).1
    rw [byV_length] at hj'
    have hj2 : j < 128 := by simpa [DSt.init] using hj'
    have hx : x = byteV 0 := by
      have := List.mem_of_getElem? hj
      rw [show byV (DSt.init.med n) = List.replicate 128 (byteV 0) from List.map_replicate] at this
      exact List.eq_of_mem_replicate this
    subst hx
    have := hat.left (n * 128 + j) (byteV 0) (by rw [List.getElem?_replicate, if_pos (by omega)])
    rw [hsp, ← this, Nat.zero_add]
  · have := hat.right
    rw [List.length_replicate, Nat.zero_add] at this
    rw [hsp]
    exact this

end Am
end Go.Proofs.Ytfijmoofdafoiaa
