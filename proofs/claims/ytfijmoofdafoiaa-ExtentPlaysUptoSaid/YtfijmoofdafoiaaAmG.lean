/-
  What the walks are told of this program: which functions have a body, and the methods of the one dynamic type that is asked.
-/
import Derived.Test.YtfijmoofdafoiaaAmF
import Derived.Test.YtfijmoofdafoiaaProg
import Derived.KernelRfl
set_option maxRecDepth 100000
namespace Go.Proofs.Ytfijmoofdafoiaa
open Go Am

def okL : List Nat := (List.range 77).drop 3 ++ [92, 93]

noncomputable def tc : Ctx := { P := Try.prog, ok := okL, meths := [(24, "Read", 36), (24, "Write", 31), (24, "Flush", 92)] }

theorem tc_call (f : Nat) (hf : okL.contains f = true) (args : Array Value) (w : World) : (callFunc f args).run Try.prog w = .ok (.enter f args) w := by
  have hm : f ∈ okL := by simpa using hf
  rw [show okL = [3, 4, 5, 6, 7, 8, 9, 10, 11, 12, 13, 14, 15, 16, 17, 18, 19, 20, 21, 22, 23, 24, 25, 26, 27, 28, 29, 30, 31, 32, 33, 34, 35, 36, 37, 38, 39, 40, 41, 42, 43, 44, 45, 46, 47, 48, 49, 50, 51, 52, 53, 54, 55, 56, 57, 58, 59, 60, 61, 62, 63, 64, 65, 66, 67, 68, 69, 70, 71, 72, 73, 74, 75, 76, 92, 93] from by decide] at hm
  simp only [List.mem_cons, List.not_mem_nil, or_false] at hm
  rcases hm with rfl | rfl | rfl | rfl | rfl | rfl | rfl | rfl | rfl | rfl | rfl | rfl | rfl | rfl | rfl | rfl | rfl | rfl | rfl | rfl | rfl | rfl | rfl | rfl | rfl | rfl | rfl | rfl | rfl | rfl | rfl | rfl | rfl | rfl | rfl | rfl | rfl | rfl | rfl | rfl | rfl | rfl | rfl | rfl | rfl | rfl | rfl | rfl | rfl | rfl | rfl | rfl | rfl | rfl | rfl | rfl | rfl | rfl | rfl | rfl | rfl | rfl | rfl | rfl | rfl | rfl | rfl | rfl | rfl | rfl | rfl | rfl | rfl | rfl | rfl | rfl
  · exact Try.call3 args w
  · exact Try.call4 args w
  · exact Try.call5 args w
  · exact Try.call6 args w
  · exact Try.call7 args w
  · exact Try.call8 args w
  · exact Try.call9 args w
  · exact Try.call10 args w
  · exact Try.call11 args w
  · exact Try.call12 args w
  · exact Try.call13 args w
  · exact Try.call14 args w
  · exact Try.call15 args w
  · exact Try.call16 args w
  · exact Try.call17 args w
  · exact Try.call18 args w
  · exact Try.call19 args w
  · exact Try.call20 args w
  · exact Try.call21 args w
  · exact Try.call22 args w
  · exact Try.call23 args w
  · exact Try.call24 args w
  · exact Try.call25 args w
  · exact Try.call26 args w
  · exact Try.call27 args w
  · exact Try.call28 args w
  · exact Try.call29 args w
  · exact Try.call30 args w
  · exact Try.call31 args w
  · exact Try.call32 args w
  · exact Try.call33 args w
  · exact Try.call34 args w
  · exact Try.call35 args w
  · exact Try.call36 args w
  · exact Try.call37 args w
  · exact Try.call38 args w
  · exact Try.call39 args w
  · exact Try.call40 args w
  · exact Try.call41 args w
  · exact Try.call42 args w
  · exact Try.call43 args w
  · exact Try.call44 args w
  · exact Try.call45 args w
  · exact Try.call46 args w
  · exact Try.call47 args w
  · exact Try.call48 args w
  · exact Try.call49 args w
  · exact Try.call50 args w
  · exact Try.call51 args w
  · exact Try.call52 args w
  · exact Try.call53 args w
  · exact Try.call54 args w
  · exact Try.call55 args w
  · exact Try.call56 args w
  · exact Try.call57 args w
  · exact Try.call58 args w
  · exact Try.call59 args w
  · exact Try.call60 args w
  · exact Try.call61 args w
  · exact Try.call62 args w
  · exact Try.call63 args w
  · exact Try.call64 args w
  · exact Try.call65 args w
  · exact Try.call66 args w
  · exact Try.call67 args w
  · exact Try.call68 args w
  · exact Try.call69 args w
  · exact Try.call70 args w
  · exact Try.call71 args w
  · exact Try.call72 args w
  · exact Try.call73 args w
  · exact Try.call74 args w
  · exact Try.call75 args w
  · exact Try.call76 args w
  · exact Try.call92 args w
  · exact Try.call93 args w

theorem m_read (v : Value) (w : World) : (method (Try.prog.types.size + Made.depth) 24 v "Read").run Try.prog w = .ok (36, v) w := by kernel_rfl
theorem m_write (v : Value) (w : World) : (method (Try.prog.types.size + Made.depth) 24 v "Write").run Try.prog w = .ok (31, v) w := by kernel_rfl
theorem m_flush (v : Value) (w : World) : (method (Try.prog.types.size + Made.depth) 24 v "Flush").run Try.prog w = .ok (92, v) w := by kernel_rfl
theorem m_mixed : tc.P.follows .mixedOrders = true := by kernel_rfl

theorem tc_meth (t : TypeId) (n : String) (f : FuncId) (hm : (t, n, f) ∈ tc.meths) (v : Value) (w : World) : (method (Try.prog.types.size + Made.depth) t v n).run Try.prog w = .ok (f, v) w := by
  have hm : (t, n, f) ∈ [(24, "Read", 36), (24, "Write", 31), (24, "Flush", 92)] := hm
  simp only [List.mem_cons, Prod.mk.injEq, List.not_mem_nil, or_false] at hm
  rcases hm with ⟨rfl, rfl, rfl⟩ | ⟨rfl, rfl, rfl⟩ | ⟨rfl, rfl, rfl⟩
  · exact m_read v w
  · exact m_write v w
  · exact m_flush v w

theorem tc_good : tc.Good where
  call := tc_call
  meth := tc_meth
  mixed := m_mixed

end Go.Proofs.Ytfijmoofdafoiaa
