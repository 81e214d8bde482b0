/-
  ExtentPlays: the helpers; the calls that have to do with claims.
-/
import Derived.Test.YtfijmoofdafoiaaBf
set_option linter.unusedSimpArgs false
set_option linter.unusedVariables false
set_option maxRecDepth 100000
namespace Go.Proofs.Ytfijmoofdafoiaa
open Go Go.RowKit
namespace Am

variable {T T' : Nat → Prop} {h h' h'' h0 : Hp} {s s' u u' : DSt} {f f' g g' : Nat → Option ExtS} {K : Value → Hp → Prop}
variable {lab : Nat → Nat} {d r m m' j : Nat} {B B' : Option Nat} {A C : Sd}

structure OpS where
  kind : Int
  two : Bool
  n : Int
  sector : Int
  serial : Int
  byte : UInt8
  len : Int
  kp : Option Addr
  kl : List Bool
  kc : Nat

def opV (o : OpS) : List Value := [.int .i64 o.kind, .bool o.two, .int .i64 o.n, .int .i64 o.sector, .int .i64 o.serial, .int .u8 (o.byte.toNat : Int), .int .i64 o.len, .slice o.kp o.kl.length o.kc]

theorem opV_one (o : OpS) : ∀ v ∈ opV o, v.oneCell' = true := by
  intro v hv
  simp [opV] at hv
  rcases hv with rfl | rfl | rfl | rfl | rfl | rfl | rfl | rfl <;> rfl

def opN (o : OpS) : Nat := (IntKind.i64.wrap (Int.tmod (IntKind.u64.wrap o.len) 256)).toNat
def opBytes (o : OpS) : List UInt8 := List.replicate (opN o) o.byte
theorem opBytes_length (o : OpS) : (opBytes o).length = opN o := List.length_replicate
theorem opN_lt (o : OpS) : opN o < 256 := by
  have := umod (n := o.len) (m := 256) (by decide) (by decide)
  unfold opN; omega

theorem bytesOf_spec {o : OpS} (k : ∀ h' p cap, Only (fun _ => False) h h' → Buf h' 1 p (opN o) cap (byV (opBytes o)) → Fresh h p → K (.slice p (opN o) cap) h') : Run tc.P 44 #[.agg (opV o).toArray] h K := by
  apply L44_run; unfold L44
  have ho1 : Only (fun _ => False) h (h.push (.cells (opV o).toArray 67)) := (Only.refl _ _).push _
  have hb1 := Blk.new h (opV o).toArray 67
  simp only [add_mk, Nat.zero_add]
  refine ldI_at hb1 rfl (ldI_at hb1 rfl ?_)
  have hr := umod (n := o.len) (m := 256) (by decide) (by decide)
  have hN : IntKind.i64.wrap (Int.tmod (IntKind.u64.wrap o.len) 256) = ((opN o : Nat) : Int) := (Int.toNat_of_nonneg hr.1).symm
  rw [hN]
  refine run_spec (n := opN o) (by have := opN_lt o; omega) fun h2 p cap ho2 hb2 hf2 => ?_
  simp only [onSl]
  exact k h2 p cap (ho1.trans ho2 fun _ _ x => x) hb2 (hf2.mono ho1.1)

theorem eqInts_self (x : ExtS) : eqInts (extV x) (extV x) = some true := by simp [extV, eqInts]

theorem SlAt.rowX {p : Option Addr} {l : List (Nat × ExtS)} (hp : SlAt h p (flatX l)) {i : Nat} {e : Nat × ExtS} (hi : l[i]? = some e) : ∃ b o cs, p = some ⟨b, o, none⟩ ∧ Blk h b cs ∧ At cs (o + i * 3) (extV e.2) ∧ o + i * 3 + 3 ≤ cs.size := by
  cases p with
  | none =>
    simp only [SlAt] at hp
    cases l with
    | nil => simp at hi
    | cons x l => simp [flatX, extV] at hp
  | some a =>
    obtain ⟨b, o, cs, rfl, hb, ha, hl⟩ := hp
    have hat := At.flat (f := fun x : Nat × ExtS => extV x.2) (n := 3) (l := l) (o := o) (fun e he => rfl) ha hi
    exact ⟨b, o, cs, rfl, hb, hat, hat.le (by simp [extV])⟩

theorem sameList_spec {p q : Option Addr} {c c' : Nat} {l : List (Nat × ExtS)} (hp : SlAt h p (flatX l)) (hq : SlAt h q (flatX l)) (hl : l.length ≤ 100000) (k : K (.bool true) h) :
    Run tc.P 66 #[.slice p l.length c, .slice q l.length c'] h K := by
  apply L66_run; unfold L66
  refine bsel_ndec (fun e => (e rfl).elim) fun _ => ?_
  refine ⟨fun st h' => ∃ I : Nat, st.1 = (I : Int) ∧ I ≤ l.length ∧ h' = h, fun st _ => ((l.length : Int) - st.1).toNat, ⟨0, rfl, Nat.zero_le _, rfl⟩, ?_⟩
  rintro ⟨i, ⟨⟩⟩ h' ⟨I, hi, hI, rfl⟩
  simp only at hi ⊢
  subst hi
  refine bsel_dec (fun h0 => ?_) fun h0 => k
  have hI2 : I < l.length := by omega
  have hIe : l[I]? = some (l[I]'hI2) := List.getElem?_eq_getElem hI2
  obtain ⟨b1, o1, cs1, rfl, hb1, ha1, hs1⟩ := hp.rowX hIe
  obtain ⟨b2, o2, cs2, rfl, hb2, ha2, hs2⟩ := hq.rowX hIe
  refine ⟨⟨by omega, h0⟩, ?_⟩
  simp only [onO, add_mk, Int.toNat_natCast]
  refine ⟨⟨by omega, h0⟩, ?_⟩
  refine ldR_at hb1 ha1 rfl hs1 (ldR_at hb2 ha2 rfl hs2 ⟨rfl, rfl, true, eqInts_self _, ?_⟩)
  refine bsel_nb (fun e => by cases e) fun _ => ⟨⟨I + 1, ?_, hI2, ?_⟩, ?_⟩
  · rw [w64 (by omega) (by omega)]; rfl
  · trivial
  · rw [w64 (by omega) (by omega)]; omega

theorem Duo.tabT (hD : Duo h0 h lab d B s u r m A C) : ∀ b, tOwn A.L.t A.L.S b → lab b = A.i := by
  rintro b (rfl | rfl)
  · exact hD.a.lt
  · exact hD.a.lS

set_option maxHeartbeats 1000000 in
theorem claims_spec {o : OpS} (hD : Duo h0 h lab d B s u r m A C) (hA : A.g = A.f) (hm : m ≤ 10000000) (k : ∀ h' lab' f', Duo h0 h' lab' d B s u r (m + 1) { A with f := f', g := f' } C → K (.bool true) h') :
    Run tc.P 42 #[.pointer (some ⟨A.L.x, 0, none⟩), .pointer (some ⟨A.t, 0, none⟩), .agg (opV o).toArray] h K := by
  apply L42_run; unfold L42
  obtain ⟨L, f, g, t, i⟩ := A
  simp only at hA k ⊢
  subst hA
  have ho1 : Only (fun _ => False) h (h.push (.cells (opV o).toArray 67)) := (Only.refl _ _).push _
  have hz1 : Zed (h.push (.cells (opV o).toArray 67)) (relab h lab 7) h.size (opV o).toArray := ⟨Blk.new _ _ _, relab_ge (Nat.le_refl _)⟩
  have hD1 := hD.fresh ho1
  have hij : i = 1 ∨ i = 3 := hD.ij.imp (fun k => k.1) (fun k => k.1)
  clear ho1 hD
  generalize h.push (.cells (opV o).toArray 67) = h1 at *
  generalize relab h lab 7 = lab1 at *
  generalize h.size = z at *
  simp only [add_mk, Nat.zero_add]
  have hx1 := hD1.a.x
  have hr1 := hD1.a.rt
  simp only at hx1 hr1
  refine ldI_at hz1.1 rfl (bsel_dec (fun e1 => ?_) fun e1 => ?_)
  · refine ldI_at hz1.1 rfl (ldI_at hz1.1 rfl ?_)
    refine claim_spec hx1 fun h2 ho2 hx2 => ?_
    have hD2 := hD1.tab ho2 hx2
    have hz2 := hz1.away ho2 hD1.tabT (show i ≠ 7 by omega)
    refine onTup_of rfl (onI_of (onTup_of rfl (onI_of ?_)))
    refine ldI_at hz2.1 rfl (ldI_at hz2.1 rfl ?_)
    have hr2 := hD2.a.rt
    refine rclaim_spec hr2 (by omega) fun h3 ho3 hr3 => ?_
    have hD3 := hD2.rtab ho3 hr3 (by omega)
    refine onTup_of rfl (onI_of (onTup_of rfl (onI_of ?_)))
    refine bsel_dec (fun _ => ?_) fun e => absurd rfl e
    rw [decide_eq_true rfl]
    exact k _ _ _ hD3
  refine bsel_dec (fun e2 => ?_) fun e2 => ?_
  · refine ldI_at hz1.1 rfl ?_
    refine hold_spec hx1 fun h2 ho2 hx2 => ?_
    have hD2 := hD1.tab ho2 hx2
    have hz2 := hz1.away ho2 hD1.tabT (show i ≠ 7 by omega)
    refine onI_of (ldI_at hz2.1 rfl ?_)
    have hr2 := hD2.a.rt
    refine rhold_spec hr2 (by omega) fun h3 ho3 hr3 => ?_
    have hD3 := hD2.rtab ho3 hr3.grow (by omega)
    refine onI_of ?_
    rw [decide_eq_true rfl]
    exact k _ _ _ hD3
  refine bsel_dec (fun e3 => ?_) fun e3 => ?_
  · refine ldI_at hz1.1 rfl ?_
    refine dropX_spec hx1 fun h2 ho2 hx2 => ?_
    have hD2 := hD1.tab ho2 hx2
    have hz2 := hz1.away ho2 hD1.tabT (show i ≠ 7 by omega)
    refine onTup_of rfl ?_
    simp only [onB]
    refine onTup_of rfl (onI_of ?_)
    refine ldI_at hz2.1 rfl ?_
    have hr2 := hD2.a.rt
    refine rdrop_spec hr2 (by omega) fun h3 ho3 hr3 => ?_
    have hD3 := (hD2.rtab ho3 hr3 (Nat.le_refl _)).more (Nat.le_add_right m 1)
    refine onTup_of rfl ?_
    simp only [onB]
    refine onTup_of rfl (onI_of ?_)
    refine bsel_true (by simp) ?_
    rw [decide_eq_true rfl]
    exact k _ _ _ hD3
  refine bsel_dec (fun e4 => ?_) fun e4 => ?_
  · refine ldI_at hz1.1 rfl ?_
    refine serial_spec hx1 fun h2 ho2 => ?_
    have hD2 := hD1.fresh ho2
    have hz2 := hz1.fresh ho2 7
    refine onTup_of rfl (onI_of (onTup_of rfl (onI_of ?_)))
    refine ldI_at hz2.1 rfl ?_
    have hr2 := hD2.a.rt
    refine rserial_spec hr2 (by omega) ?_
    refine onTup_of rfl (onI_of (onTup_of rfl (onI_of ?_)))
    refine bsel_dec (fun _ => ?_) fun e => absurd rfl e
    rw [decide_eq_true rfl]
    exact k _ _ _ (hD2.more (Nat.le_add_right m 1))
  · refine list_spec hx1 fun h2 p cap ho2 hb2 hf2 => ?_
    have hD2 := hD1.fresh ho2
    simp only [onSl]
    have hr2 := hD2.a.rt
    refine rlist_spec hr2 (by omega) fun h3 q qcap ho3 hb3 hf3 => ?_
    have hD3 := hD2.fresh ho3
    simp only [onSl]
    have hle : (heldFrom g 0).length ≤ 32 := heldGo_le g 32 0
    refine sameList_spec (hb2.only ho3 fun _ _ => id).slAt hb3.slAt (by omega) ?_
    simp only [onB]
    exact k _ _ _ (hD3.more (Nat.le_add_right m 1))

end Am
end Go.Proofs.Ytfijmoofdafoiaa
