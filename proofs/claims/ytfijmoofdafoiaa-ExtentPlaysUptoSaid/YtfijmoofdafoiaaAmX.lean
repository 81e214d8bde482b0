/-
  ExtentWalls: its function returns true.
-/
import Derived.Test.YtfijmoofdafoiaaAmW
set_option linter.unusedSimpArgs false
set_option linter.unusedVariables false
set_option maxRecDepth 100000
namespace Go.Proofs.Ytfijmoofdafoiaa
open Go Go.RowKit
namespace Am

variable {T T' : Nat → Prop} {h h' h'' : Hp} {L : Am.Loc} {B B' : Option Nat} {f f' : Nat → Option ExtS} {s s' : DSt} {d : Nat} {K : Value → Hp → Prop}
variable {h0 : Hp} {M : Nat} {view : Nat → List UInt8} {p : Option Addr} {cap : Nat} {gs : List Nat}

theorem mine_splice {l : List Bool} {N : Nat} (hN : N < l.length) : splice ((l.map Value.bool).toArray) N #[.bool true] = ((l.set N true).map Value.bool).toArray := by
  have hs : N + (#[Value.bool true] : Array Value).size ≤ ((l.map Value.bool).toArray).size := by simp; omega
  apply Array.ext_getElem?
  intro i
  rw [splice_get hs]
  by_cases hi : i = N
  · subst hi; rw [if_pos (by simp)]; simp [hN]
  · rw [if_neg (by simp; omega)]; simp [List.getElem?_set, Ne.symm hi]

theorem Walls.claim (hw : Walls h0 h L B f s M) (ho : Only (tOwn L.t L.S) h h') (hx : XAt h' L B f' s) {N : Nat} (hN : N < 32) (hm : ((mineL f).set N true) = mineL f') :
    Walls h0 (setB h' M (splice ((mineL f).map Value.bool).toArray N #[.bool true])) L B f' s M := by
  rw [mine_splice (by rw [mineL_length]; exact hN), hm]
  have hb := hw.mine.only ho fun e => hw.nM (.inr (.inl e))
  have ho2 : Only (fun _ => False) h0 h' := hw.only.trans ho fun b hb hx' => absurd (hw.fx b (.inr (.inl hx'))) (by omega)
  have hox : Only (fun b => b = M) h' (setB h' M ((mineL f').map Value.bool).toArray) := (Only.refl _ _).set (.inl rfl)
  exact ⟨ho2.set (.inr hw.fM), hx.only hox fun b hb e => hw.nM (e ▸ hb), hb.setB, hw.nM, hw.fM, hw.fx, hw.armed, hw.down⟩

theorem claimF_at {N : Nat} {ser : Int} (hN : N < 32) (hs : 1 ≤ ser ∧ ser ≤ 4611686018427387903) : claimF f N ser = match f N with | some _ => ((-1, 101), f) | none => (((N : Int), 0), upd f N (some ⟨N, ser, 1⟩)) := by
  unfold claimF
  rw [if_neg (by omega), if_neg (by omega), if_neg (by omega), if_neg (by omega), if_neg (by omega), Int.toNat_natCast]
  cases f N <;> rfl

theorem mineL_same {N : Nat} {x : ExtS} (hN : N < 32) (hf : f N = some x) : (mineL f).set N true = mineL f := by
  rw [mineL_upd (x := x) hN]
  congr 1
  funext i; unfold upd; split
  · rename_i e; subst e; exact hf.symm
  · rfl

theorem tail_fail {X n55 n63 n m : Int} {l60 : Nat} {BIG : Prop} {J : Hp → Prop} (hw : Walls h0 h L B f s M) (hn : Now h0 h L B M s.look p cap gs) (hl : s.cache.length ≤ 1099511627776) {d : Nat} (hd : L.d = d)
    (hX : X ≠ 0) (h55 : n55 = X) (h63 : n63 = X) (h60 : l60 = 0) (hk : ∀ h', Only (fun _ => False) h h' → J h') :
    bsel (!decide (n55 = X)) (K (.bool false) h) (bsel (!decide (n63 = X)) (K (.bool false) h) (bsel (decide (X = 0)) BIG (bsel (!decide (((l60 : Nat) : Int) = 0)) (K (.bool false) h)
      (Run tc.P 17 #[.pointer (some ⟨d, 0, none⟩), .slice p 1024 cap, .int .i64 n, .int .i64 m] h fun x77 h78 => onB x77 fun b79 => bsel (!b79) (K (.bool false) h78) (J h78))))) := by
  subst hd
  refine bsel_ndec (fun e => absurd h55 e) fun _ => bsel_ndec (fun e => absurd h63 e) fun _ => bsel_dec (fun e => absurd e hX) fun _ => bsel_ndec (fun e => absurd (by rw [h60]; rfl) e) fun _ => ?_
  refine looked_spec hw.x.disk hl hw.down hn.len hn.w fun h' ho => ?_
  simp only [onB]
  exact bsel_nb (fun e => by cases e) fun _ => hk h' ho

theorem Now.set {b P g : Nat} {cs : Array Value} {bs : List UInt8} {view' : Nat → List UInt8} (hn : Now h0 h L B M view (some ⟨b, 0, none⟩) cap gs) (hb : Blk h b cs) (hP : P < 1024)
    (hg : Blk h g (byV bs).toArray) (hv : view' P = bs) (hv2 : ∀ k, k ≠ P → view' k = view k) (hgx : ¬ xOwn L B g) (hgM : g ≠ M) (hgf : h0.size ≤ g) (hgb : g ≠ b) :
    P + 1 ≤ cs.size ∧ Now h0 (setB h b (splice cs (0 + P) #[slV g])) L B M view' (some ⟨b, 0, none⟩) cap (gs.set P g) := by
  obtain ⟨b', cs', e, hb', hs', ha', hx', hl'⟩ := hn.w.buf
  cases e
  obtain rfl := hb.inj hb'
  have hPl : P < gs.length := by rw [hn.len]; exact hP
  refine ⟨by rw [hs', Nat.mul_one]; omega, ⟨⟨b, _, rfl, hb.setB, ?_, ?_, by simp, by simpa using hl'⟩, fun i g' hi => ?_, fun g' hg' a ha => ?_⟩, by simpa using hn.len, hn.np, hn.pM, fun g' hg' => ?_, fun g' hg' => ?_, hn.fp, fun g' hg' => ?_⟩
  · rw [splice_size (by rw [hs']; simp; omega), hs']
  · rw [List.map_set]; exact ha'.splice_set (by simpa using hPl)
  · rw [List.getElem?_set] at hi
    split at hi
    · rename_i e; subst e
      injection hi with hi; subst hi
      rw [hv]; exact hg.ofSetB hgb
    · rename_i e
      have hne : g' ≠ b := fun e' => hn.w.ne g' (List.mem_of_getElem? hi) _ rfl e'.symm
      rw [hv2 i (fun e' => e e'.symm)]
      exact (hn.w.blk i g' hi).ofSetB hne
  · injection ha with ha; subst ha
    rcases List.mem_or_eq_of_mem_set hg' with k | rfl
    · exact hn.w.ne g' k _ rfl
    · exact fun e => hgb e.symm
  · rcases List.mem_or_eq_of_mem_set hg' with k | rfl
    · exact hn.ng g' k
    · exact hgx
  · rcases List.mem_or_eq_of_mem_set hg' with k | rfl
    · exact hn.gM g' k
    · exact hgM
  · rcases List.mem_or_eq_of_mem_set hg' with k | rfl
    · exact hn.fg g' k
    · exact hgf

/-- A step of the list's own block. -/
theorem Walls.other (hw : Walls h0 h L B f s M) {b : Nat} (hb : ¬ xOwn L B b) (hbM : b ≠ M) (hbf : h0.size ≤ b) (cs : Array Value) : Walls h0 (setB h b cs) L B f s M := by
  have hox : Only (fun x => x = b) h (setB h b cs) := (Only.refl _ _).set (.inl rfl)
  exact ⟨hw.only.set (.inr hbf), hw.x.only hox fun x hx e => hb (e ▸ hx), hw.mine.ofSetB (fun e => hbM e.symm), hw.nM, hw.fM, hw.fx, hw.armed, hw.down⟩

end Am
end Go.Proofs.Ytfijmoofdafoiaa
