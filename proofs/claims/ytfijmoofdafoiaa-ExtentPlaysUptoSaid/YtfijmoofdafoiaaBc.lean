/-
  The reference's disk: a crash.
-/
import Derived.Test.YtfijmoofdafoiaaBb
set_option linter.unusedSimpArgs false
set_option linter.unusedVariables false
set_option maxRecDepth 100000
namespace Go.Proofs.Ytfijmoofdafoiaa
open Go Go.RowKit
namespace Am

variable {T T' : Nat → Prop} {h h' h'' : Hp} {F F' : Nat → Prop} {s s' : DSt} {K : Value → Hp → Prop}
variable {r : Nat} {P Q : Option Nat} {pc qc : Nat} {l ld wt : List RRec} {a : Int} {dn : Bool} {ct : Int}

theorem addr_block (a : Addr) (j : Nat) : (a.add j).block = a.block := by unfold Addr.add; split <;> rfl

theorem RAt.off {p : Option Addr} {xs : List Value} (hr : RAt h p xs) (ho : Only T h h') (hn : Off p T) : RAt h' p xs := by
  intro j x hj
  obtain ⟨a, rfl, hc⟩ := hr j x hj
  refine ⟨a, rfl, ?_⟩
  obtain ⟨c, e, fr, hb, hs, hv⟩ := cellH_block hc
  have := ho.2 (a.add j).block (lt_of_get hb) (by rw [addr_block]; exact hn a rfl)
  simp [cellH, this, hb, hs, hv]

theorem rcrash_spec {m : Nat} {p : Option Addr} {l : List Bool} {c : Nat} (hd : RDiskAt h F r m s) (hm : m ≤ 100000000) (hp : RAt h p (l.map .bool)) (hpd : l ≠ [] → Off p F)
    (k : ∀ h', Only F h h' → RDiskAt h' (Gr F h) r m (s.crash l) → K (.int .i64 (drainN (keptOf l) 0 s.cache : Nat)) h') :
    Run tc.P 48 #[.pointer (some ⟨r, 0, none⟩), .slice p l.length c] h K := by
  apply L48_run; unfold L48; simp only [onPtr, add_mk, Nat.zero_add]
  obtain ⟨P, pc, Q, qc, ld, wt, hb, hr, hlm⟩ := hd
  refine ⟨fun st h' => ∃ (I c : Nat) (P' : Option Nat) (pc' : Nat) (ld' : List RRec), st.2.1 = (I : Int) ∧ st.1 = (c : Int) ∧ I ≤ wt.length ∧ Only F h h' ∧ RBox h' (Gr F h) r P' pc' Q qc ld' wt (armI s) s.down s.acts ∧
      ld' = ld ++ keepL (keptOf l) 0 (wt.take I) ∧ c = (keepL (keptOf l) 0 (wt.take I)).length, fun st _ => ((wt.length : Int) - st.2.1).toNat,
    ⟨0, 0, P, pc, ld, rfl, rfl, Nat.zero_le _, Only.refl _ _, hb.mono fun b _ hx => .inl hx, by simp [keepL], rfl⟩, ?_⟩
  rintro ⟨c0, i, ⟨⟩⟩ h' ⟨I, c, P', pc', ld', hi, hc, hI, ho, hb', hld, hcl⟩
  simp only at hi hc ⊢
  subst hi hc
  have hkb := keepL_length (keptOf l) (wt.take I) 0
  rw [List.length_take] at hkb
  have hldl : ld'.length = ld.length + (keepL (keptOf l) 0 (wt.take I)).length := by rw [hld, List.length_append]
  refine ldS_at hb'.blk rfl (bsel_dec (fun h0 => ?_) fun h0 => ?_)
  · have hI2 : I < wt.length := by omega
    have hIe : wt[I]? = some (wt[I]'hI2) := List.getElem?_eq_getElem hI2
    have hmem := List.getElem_mem hI2
    have htk : wt.take (I + 1) = wt.take I ++ [wt[I]'hI2] := by rw [List.take_add_one, hIe]; rfl
    have htl : (wt.take I).length = I := by rw [List.length_take]; omega
    have hkl : keepL (keptOf l) 0 (wt.take (I + 1)) = keepL (keptOf l) 0 (wt.take I) ++ (if keptOf l I then [wt[I]'hI2] else []) := by
      rw [htk, keepL_append, htl, Nat.zero_add]; simp [keepL]
    generalize wt[I]'hI2 = e at *
    have hnot : keptOf l I = false → (∃ (I' c' : Nat) (P'' : Option Nat) (pc'' : Nat) (ld'' : List RRec), IntKind.i64.wrap ((I : Int) + 1) = (I' : Int) ∧ (c : Int) = (c' : Int) ∧ I' ≤ wt.length ∧ Only F h h' ∧ RBox h' (Gr F h) r P'' pc'' Q qc ld'' wt (armI s) s.down s.acts ∧
        ld'' = ld ++ keepL (keptOf l) 0 (wt.take I') ∧ c' = (keepL (keptOf l) 0 (wt.take I')).length) ∧ ((wt.length : Int) - IntKind.i64.wrap ((I : Int) + 1)).toNat < ((wt.length : Int) - (I : Int)).toNat := by
      intro hk
      rw [hk] at hkl
      simp only [Bool.false_eq_true, if_false, List.append_nil] at hkl
      refine ⟨⟨I + 1, c, P', pc', ld', ?_, rfl, hI2, ho, hb', by rw [hkl]; exact hld, by rw [hkl]; exact hcl⟩, ?_⟩
      · rw [w64 (by omega) (by omega)]; rfl
      · rw [w64 (by omega) (by omega)]; omega
    refine bsel_dec (fun h1 => ?_) fun h1 => ?_
    · have hIl : I < l.length := by omega
      obtain ⟨a, rfl, hcell⟩ := (hp.off ho (hpd (by rintro rfl; simp at hIl))) I (.bool (l[I]'hIl)) (by simp [hIl])
      have hkI : keptOf l I = l[I]'hIl := by unfold keptOf; rw [List.getD_eq_getElem?_getD, List.getElem?_eq_getElem hIl]; rfl
      refine ⟨⟨by omega, h1⟩, ?_⟩
      simp only [onO, Int.toNat_natCast, Nat.mul_one]
      refine ⟨l[I]'hIl, hcell, bsel_b (fun h2 => ?_) fun h2 => ?_⟩
      · rw [hkI, h2] at hkl
        simp only [if_true] at hkl
        refine ldS_at hb'.blk rfl (ldS_at hb'.blk rfl ⟨⟨by omega, h0⟩, ?_⟩)
        obtain ⟨b, cs, hQ, hblk, hat⟩ := recs_row hb'.w.buf hIe
        have hoQ : oP Q = some ⟨b, 0, none⟩ := by rw [hQ]; rfl
        rw [hoQ]
        simp only [onO, add_mk, Nat.zero_add]
        refine ldR_at hblk hat rfl (hat.le (by simp [recV])) ?_
        have hf2 := fill3 (t := 0) (z := zeroOf tc.P 116) (cs := (recV e).toArray) (n := 3) (by rw [z116]; rfl) (by decide) rfl
        rw [hf2]
        simp only [onO]
        have ho4 : Only (fun _ => False) h' (h'.push (.cells (recV e).toArray 116)) := (Only.refl _ _).push _
        refine ⟨ho4.keep, ?_⟩
        have hnew := Blk.new h' (recV e).toArray 116
        have hb4 := hb'.only ho4 fun _ _ => id
        refine apnd_buf (by rw [z116]; rfl) hb4.l.buf (ys := recV e) ⟨_, _, _, rfl, hnew, At.all _, by simp⟩ rfl (by decide) (recV_one _) (by omega) (by decide) fun p' cap' h5 ho5 hb5 hp5 => ?_
        obtain ⟨P'', rfl, hP''⟩ := oP_new hp5
        have hcells : (Value.slice (oP P'') (ld'.length + 1) cap').cells = #[Value.slice (oP P'') (ld'.length + 1) cap'] := rfl
        rw [hcells]
        refine szIs_of rfl ?_
        have ho45 : Only (fun b => oP P' = some ⟨b, 0, none⟩) h' h5 := (ho4.mono fun _ _ x => x.elim).trans ho5 fun _ _ x => x
        have hll : (ld' ++ [e]).length = ld'.length + 1 := by simp
        have hset := hb'.setL (ld' := ld' ++ [e]) (pc' := cap') (P' := P'') ho45 (by rw [hll, List.flatMap_append]; simpa using hb5) (by
          rcases hP'' with k | ⟨b, k, hk⟩
          · exact .inl k
          · exact .inr ⟨b, k, by have := ho4.1; omega⟩) (fun x hx => by
          rcases List.mem_append.1 hx with hx | hx
          · exact .inl hx
          · cases List.mem_singleton.1 hx; exact .inr hmem)
        rw [hll] at hset
        have hrblk := hb'.blk.only ho45 fun e => (hb'.l.fp _ (oP_block e)).2 rfl
        rw [hoQ] at hrblk hset
        refine st_at hrblk (by simp) (one_ok _ rfl) ?_
        have hset2 := hset.mono (F' := Gr F h) fun b _ hx => by
          have := ho.1
          rcases hx with (hx | hx) | hx
          · exact .inl hx
          · exact .inr hx
          · exact .inr (by omega)
        refine ⟨⟨I + 1, c + 1, P'', cap', ld' ++ [e], ?_, ?_, hI2, ?_, hset2, by rw [hkl, hld, List.append_assoc], by rw [hkl, List.length_append, hcl]; rfl⟩, ?_⟩
        · rw [w64 (by omega) (by omega)]; rfl
        · rw [w64 (by omega) (by omega)]; rfl
        · refine (ho.trans ho45 fun b hb e => ?_).set (.inl hb.fr)
          rcases (hb'.l.fp _ (oP_block e)).1 with k | k
          · exact k
          · omega
        · rw [w64 (by omega) (by omega)]; omega
      · exact hnot (by rw [hkI]; exact h2)
    · exact hnot (by unfold keptOf; rw [List.getD_eq_getElem?_getD, List.getElem?_eq_none (by omega)]; rfl)
  · have hIw : I = wt.length := by omega
    subst hIw
    rw [List.take_length] at hld hcl hldl hkb
    have hb1 := hb'.clearW
    have hb2 := hb1.setA (-1)
    have hb3 := hb2.setD false
    refine st_at hb'.blk (by simp) (one_ok _ rfl) (st_at hb1.blk (by simp) (one_ok _ rfl) (st_at hb2.blk (by simp) (one_ok _ rfl) ?_))
    have hce : (drainN (keptOf l) 0 s.cache) = c := by
      rw [drainN_keep, hr.cache, keepL_map, List.length_map, hcl]
    rw [hce] at k
    refine k _ (((ho.set (.inl hb.fr)).set (.inl hb.fr)).set (.inl hb.fr)) ⟨P', pc', none, 0, ld', [], hb3, ⟨rfl, fun n => ?_, fun e => by cases e⟩, by rw [List.length_nil]; omega⟩
    show drainM (keptOf l) 0 s.cache s.med n = _
    rw [drainM_lookF, hr.med, hr.cache, keepL_map, hld, List.map_append, lookF_append]

end Am
end Go.Proofs.Ytfijmoofdafoiaa
