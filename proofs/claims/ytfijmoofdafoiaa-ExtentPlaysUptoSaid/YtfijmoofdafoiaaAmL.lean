/-
  THE SMALL FORMS OF THE WALKS, as a program of ours printed them: for each function what its code asks for, and the run that follows.
-/
import Derived.Test.YtfijmoofdafoiaaAmG
import Derived.KernelRfl
set_option linter.unusedVariables false
set_option maxRecDepth 100000
namespace Go.Proofs.Ytfijmoofdafoiaa
open Go Am

def L3 (i0 : Option Addr) (l0 c0 : Nat) (i1 : Option Addr) (l1 c1 : Nat) (i2 : Option Addr) (l2 c2 : Nat) (h : Hp) (K : Value → Hp → Prop) : Prop :=
 Run tc.P 7 #[(.slice i0 l0 c0)] h fun x1 h2 =>
 onP x1 fun p3 =>
 (p3 = none ∨ (none : Option Addr) = none) ∧ (bsel (p3.isNone && (none : Option Addr).isNone) (K (.bool false) h2)
 (Run tc.P 8 #[(.pointer p3)] h2 fun x4 h5 =>
 onP x4 fun p6 =>
 (p6 = none ∨ (none : Option Addr) = none) ∧ (bsel (p6.isNone && (none : Option Addr).isNone) (K (.bool false) h5)
 (LoopI (σ := (Int) × Unit) (fun st7 h8 J9 =>
 bsel (decide (st7.1 < ((l1 : Nat) : Int))) (((0 : Int) ≤ st7.1 ∧ st7.1 < ((l1 : Nat) : Int)) ∧
 onO i1 fun a10 =>
 ldI h8 (a10.add (Int.toNat st7.1 * 1)) .i64 fun n11 =>
 Run tc.P 9 #[(.pointer p6), (.int .i64 (IntKind.i64.wrap (Int.tmod (IntKind.u64.wrap n11) 32))), (.int .i64 (IntKind.i64.wrap (st7.1 + 1)))] h8 fun x12 h13 =>
 onTup 0 x12 fun x14 =>
 onI .i64 x14 fun n15 =>
 onTup 1 x12 fun x16 =>
 onI .i64 x16 fun n17 =>
 ((0 : Int) ≤ (IntKind.i64.wrap (Int.tmod (IntKind.u64.wrap n11) 32)) ∧ (IntKind.i64.wrap (Int.tmod (IntKind.u64.wrap n11) 32)) < (32 : Int)) ∧
 ldB h13 ((Addr.mk h5.size 0 none).add (Int.toNat (IntKind.i64.wrap (Int.tmod (IntKind.u64.wrap n11) 32)) * 1)) fun b18 =>
 bsel b18 (bsel (!decide (n15 = (-1))) (K (.bool false) h13)
 (bsel (!decide (n17 = 101)) (K (.bool false) h13)
 (((0 : Int) ≤ (IntKind.i64.wrap (Int.tmod (IntKind.u64.wrap n11) 32)) ∧ (IntKind.i64.wrap (Int.tmod (IntKind.u64.wrap n11) 32)) < (32 : Int)) ∧
 ldB h13 ((Addr.mk h5.size 0 none).add (Int.toNat (IntKind.i64.wrap (Int.tmod (IntKind.u64.wrap n11) 32)) * 1)) fun b19 =>
 bsel (!b19) (bsel (!decide (n15 = (IntKind.i64.wrap (Int.tmod (IntKind.u64.wrap n11) 32)))) (K (.bool false) h13)
 (bsel (!decide (n17 = 0)) (K (.bool false) h13)
 (((0 : Int) ≤ (IntKind.i64.wrap (Int.tmod (IntKind.u64.wrap n11) 32)) ∧ (IntKind.i64.wrap (Int.tmod (IntKind.u64.wrap n11) 32)) < (32 : Int)) ∧
 st h13 ((Addr.mk h5.size 0 none).add (Int.toNat (IntKind.i64.wrap (Int.tmod (IntKind.u64.wrap n11) 32)) * 1)) #[(.bool true)] fun h20 =>
 J9 ((IntKind.i64.wrap (st7.1 + 1)), ()) h20)))
 (((0 : Int) ≤ (IntKind.i64.wrap (Int.tmod (IntKind.u64.wrap n11) 32)) ∧ (IntKind.i64.wrap (Int.tmod (IntKind.u64.wrap n11) 32)) < (32 : Int)) ∧
 st h13 ((Addr.mk h5.size 0 none).add (Int.toNat (IntKind.i64.wrap (Int.tmod (IntKind.u64.wrap n11) 32)) * 1)) #[(.bool true)] fun h21 =>
 J9 ((IntKind.i64.wrap (st7.1 + 1)), ()) h21))))
 (((0 : Int) ≤ (IntKind.i64.wrap (Int.tmod (IntKind.u64.wrap n11) 32)) ∧ (IntKind.i64.wrap (Int.tmod (IntKind.u64.wrap n11) 32)) < (32 : Int)) ∧
 ldB h13 ((Addr.mk h5.size 0 none).add (Int.toNat (IntKind.i64.wrap (Int.tmod (IntKind.u64.wrap n11) 32)) * 1)) fun b22 =>
 bsel (!b22) (bsel (!decide (n15 = (IntKind.i64.wrap (Int.tmod (IntKind.u64.wrap n11) 32)))) (K (.bool false) h13)
 (bsel (!decide (n17 = 0)) (K (.bool false) h13)
 (((0 : Int) ≤ (IntKind.i64.wrap (Int.tmod (IntKind.u64.wrap n11) 32)) ∧ (IntKind.i64.wrap (Int.tmod (IntKind.u64.wrap n11) 32)) < (32 : Int)) ∧
 st h13 ((Addr.mk h5.size 0 none).add (Int.toNat (IntKind.i64.wrap (Int.tmod (IntKind.u64.wrap n11) 32)) * 1)) #[(.bool true)] fun h23 =>
 J9 ((IntKind.i64.wrap (st7.1 + 1)), ()) h23)))
 (((0 : Int) ≤ (IntKind.i64.wrap (Int.tmod (IntKind.u64.wrap n11) 32)) ∧ (IntKind.i64.wrap (Int.tmod (IntKind.u64.wrap n11) 32)) < (32 : Int)) ∧
 st h13 ((Addr.mk h5.size 0 none).add (Int.toNat (IntKind.i64.wrap (Int.tmod (IntKind.u64.wrap n11) 32)) * 1)) #[(.bool true)] fun h24 =>
 J9 ((IntKind.i64.wrap (st7.1 + 1)), ()) h24)))
 (Run tc.P 10 #[(.pointer p3)] h8 fun x25 h26 =>
 onSl x25 fun p27 l28 c29 =>
 bsel (!decide (((l28 : Nat) : Int) = 1024)) (K (.bool false) h26)
 (ldR h26 (Addr.mk h5.size 0 none) 32 fun g30 =>
 Run tc.P 11 #[(.pointer p6)] h26 fun x31 h32 =>
 onSl x31 fun p33 l34 c35 =>
 Keep h26 h32 ∧
 Run tc.P 12 #[(.agg g30)] h32 fun x36 h37 =>
 onI .i64 x36 fun n38 =>
 bsel (!decide (((l34 : Nat) : Int) = n38)) (K (.bool false) h37)
 (LoopI (σ := (Int) × Unit) (fun st39 h40 J41 =>
 bsel (decide (st39.1 < ((l2 : Nat) : Int))) (((0 : Int) ≤ st39.1 ∧ st39.1 < ((l2 : Nat) : Int)) ∧
 onO i2 fun a42 =>
 ((0 : Int) ≤ 0 ∧ 0 < (3 : Int)) ∧
 ((0 : Int) ≤ st39.1 ∧ st39.1 < ((l2 : Nat) : Int)) ∧
 onO i2 fun a43 =>
 ((0 : Int) ≤ 1 ∧ 1 < (3 : Int)) ∧
 ((0 : Int) ≤ st39.1 ∧ st39.1 < ((l2 : Nat) : Int)) ∧
 onO i2 fun a44 =>
 ((0 : Int) ≤ 2 ∧ 2 < (3 : Int)) ∧
 ldI h40 ((a42.add (Int.toNat st39.1 * 3)).add (Int.toNat 0 * 1)) .i64 fun n45 =>
 ldI h40 ((a43.add (Int.toNat st39.1 * 3)).add (Int.toNat 1 * 1)) .i64 fun n46 =>
 ldI h40 ((a44.add (Int.toNat st39.1 * 3)).add (Int.toNat 2 * 1)) .i64 fun n47 =>
 Run tc.P 14 #[(.int .u8 (IntKind.u8.wrap n47)), (.int .i64 128)] h40 fun x48 h49 =>
 onSl x48 fun p50 l51 c52 =>
 Run tc.P 13 #[(.pointer p6), (.int .i64 n45), (.int .i64 n46), (.slice p50 l51 c52)] h49 fun x53 h54 =>
 onI .i64 x53 fun n55 =>
 Run tc.P 15 #[(.pointer p6), (.int .i64 n45), (.int .i64 n46)] h54 fun x56 h57 =>
 onTup 0 x56 fun x58 =>
 onSl x58 fun p59 l60 c61 =>
 onTup 1 x56 fun x62 =>
 onI .i64 x62 fun n63 =>
 bsel (decide (n45 < 0)) (bsel (!decide (n55 = 100)) (K (.bool false) h57)
 (bsel (!decide (n63 = 100)) (K (.bool false) h57)
 (bsel (decide (100 = 0)) (Run tc.P 14 #[(.int .u8 (IntKind.u8.wrap n47)), (.int .i64 128)] h57 fun x64 h65 =>
 onSl x64 fun p66 l67 c68 =>
 Run tc.P 16 #[(.slice p59 l60 c61), (.slice p66 l67 c68)] h65 fun x69 h70 =>
 onB x69 fun b71 =>
 bsel (!b71) (K (.bool false) h70)
 (((0 : Int) ≤ (IntKind.i64.wrap ((IntKind.i64.wrap (32 * n45)) + n46)) ∧ (IntKind.i64.wrap ((IntKind.i64.wrap (32 * n45)) + n46)) < ((l28 : Nat) : Int)) ∧
 onO p27 fun a72 =>
 st h70 (a72.add (Int.toNat (IntKind.i64.wrap ((IntKind.i64.wrap (32 * n45)) + n46)) * 1)) #[(.slice p59 l60 c61)] fun h73 =>
 Run tc.P 17 #[(.pointer p3), (.slice p27 l28 c29), (.int .i64 n45), (.int .i64 n46)] h73 fun x74 h75 =>
 onB x74 fun b76 =>
 bsel (!b76) (K (.bool false) h75)
 (J41 ((IntKind.i64.wrap (st39.1 + 1)), ()) h75)))
 (bsel (!decide (((l60 : Nat) : Int) = 0)) (K (.bool false) h57)
 (Run tc.P 17 #[(.pointer p3), (.slice p27 l28 c29), (.int .i64 n45), (.int .i64 n46)] h57 fun x77 h78 =>
 onB x77 fun b79 =>
 bsel (!b79) (K (.bool false) h78)
 (J41 ((IntKind.i64.wrap (st39.1 + 1)), ()) h78))))))
 (bsel (decide (32 ≤ n45)) (bsel (!decide (n55 = 100)) (K (.bool false) h57)
 (bsel (!decide (n63 = 100)) (K (.bool false) h57)
 (bsel (decide (100 = 0)) (Run tc.P 14 #[(.int .u8 (IntKind.u8.wrap n47)), (.int .i64 128)] h57 fun x80 h81 =>
 onSl x80 fun p82 l83 c84 =>
 Run tc.P 16 #[(.slice p59 l60 c61), (.slice p82 l83 c84)] h81 fun x85 h86 =>
 onB x85 fun b87 =>
 bsel (!b87) (K (.bool false) h86)
 (((0 : Int) ≤ (IntKind.i64.wrap ((IntKind.i64.wrap (32 * n45)) + n46)) ∧ (IntKind.i64.wrap ((IntKind.i64.wrap (32 * n45)) + n46)) < ((l28 : Nat) : Int)) ∧
 onO p27 fun a88 =>
 st h86 (a88.add (Int.toNat (IntKind.i64.wrap ((IntKind.i64.wrap (32 * n45)) + n46)) * 1)) #[(.slice p59 l60 c61)] fun h89 =>
 Run tc.P 17 #[(.pointer p3), (.slice p27 l28 c29), (.int .i64 n45), (.int .i64 n46)] h89 fun x90 h91 =>
 onB x90 fun b92 =>
 bsel (!b92) (K (.bool false) h91)
 (J41 ((IntKind.i64.wrap (st39.1 + 1)), ()) h91)))
 (bsel (!decide (((l60 : Nat) : Int) = 0)) (K (.bool false) h57)
 (Run tc.P 17 #[(.pointer p3), (.slice p27 l28 c29), (.int .i64 n45), (.int .i64 n46)] h57 fun x93 h94 =>
 onB x93 fun b95 =>
 bsel (!b95) (K (.bool false) h94)
 (J41 ((IntKind.i64.wrap (st39.1 + 1)), ()) h94))))))
 (((0 : Int) ≤ n45 ∧ n45 < (32 : Int)) ∧
 ldB h57 ((Addr.mk h5.size 0 none).add (Int.toNat n45 * 1)) fun b96 =>
 bsel (!b96) (bsel (!decide (n55 = 100)) (K (.bool false) h57)
 (bsel (!decide (n63 = 100)) (K (.bool false) h57)
 (bsel (decide (100 = 0)) (Run tc.P 14 #[(.int .u8 (IntKind.u8.wrap n47)), (.int .i64 128)] h57 fun x97 h98 =>
 onSl x97 fun p99 l100 c101 =>
 Run tc.P 16 #[(.slice p59 l60 c61), (.slice p99 l100 c101)] h98 fun x102 h103 =>
 onB x102 fun b104 =>
 bsel (!b104) (K (.bool false) h103)
 (((0 : Int) ≤ (IntKind.i64.wrap ((IntKind.i64.wrap (32 * n45)) + n46)) ∧ (IntKind.i64.wrap ((IntKind.i64.wrap (32 * n45)) + n46)) < ((l28 : Nat) : Int)) ∧
 onO p27 fun a105 =>
 st h103 (a105.add (Int.toNat (IntKind.i64.wrap ((IntKind.i64.wrap (32 * n45)) + n46)) * 1)) #[(.slice p59 l60 c61)] fun h106 =>
 Run tc.P 17 #[(.pointer p3), (.slice p27 l28 c29), (.int .i64 n45), (.int .i64 n46)] h106 fun x107 h108 =>
 onB x107 fun b109 =>
 bsel (!b109) (K (.bool false) h108)
 (J41 ((IntKind.i64.wrap (st39.1 + 1)), ()) h108)))
 (bsel (!decide (((l60 : Nat) : Int) = 0)) (K (.bool false) h57)
 (Run tc.P 17 #[(.pointer p3), (.slice p27 l28 c29), (.int .i64 n45), (.int .i64 n46)] h57 fun x110 h111 =>
 onB x110 fun b112 =>
 bsel (!b112) (K (.bool false) h111)
 (J41 ((IntKind.i64.wrap (st39.1 + 1)), ()) h111))))))
 (bsel (decide (n46 < 0)) (bsel (!decide (n55 = 40)) (K (.bool false) h57)
 (bsel (!decide (n63 = 40)) (K (.bool false) h57)
 (bsel (decide (40 = 0)) (Run tc.P 14 #[(.int .u8 (IntKind.u8.wrap n47)), (.int .i64 128)] h57 fun x113 h114 =>
 onSl x113 fun p115 l116 c117 =>
 Run tc.P 16 #[(.slice p59 l60 c61), (.slice p115 l116 c117)] h114 fun x118 h119 =>
 onB x118 fun b120 =>
 bsel (!b120) (K (.bool false) h119)
 (((0 : Int) ≤ (IntKind.i64.wrap ((IntKind.i64.wrap (32 * n45)) + n46)) ∧ (IntKind.i64.wrap ((IntKind.i64.wrap (32 * n45)) + n46)) < ((l28 : Nat) : Int)) ∧
 onO p27 fun a121 =>
 st h119 (a121.add (Int.toNat (IntKind.i64.wrap ((IntKind.i64.wrap (32 * n45)) + n46)) * 1)) #[(.slice p59 l60 c61)] fun h122 =>
 Run tc.P 17 #[(.pointer p3), (.slice p27 l28 c29), (.int .i64 n45), (.int .i64 n46)] h122 fun x123 h124 =>
 onB x123 fun b125 =>
 bsel (!b125) (K (.bool false) h124)
 (J41 ((IntKind.i64.wrap (st39.1 + 1)), ()) h124)))
 (bsel (!decide (((l60 : Nat) : Int) = 0)) (K (.bool false) h57)
 (Run tc.P 17 #[(.pointer p3), (.slice p27 l28 c29), (.int .i64 n45), (.int .i64 n46)] h57 fun x126 h127 =>
 onB x126 fun b128 =>
 bsel (!b128) (K (.bool false) h127)
 (J41 ((IntKind.i64.wrap (st39.1 + 1)), ()) h127))))))
 (bsel (decide (32 ≤ n46)) (bsel (!decide (n55 = 40)) (K (.bool false) h57)
 (bsel (!decide (n63 = 40)) (K (.bool false) h57)
 (bsel (decide (40 = 0)) (Run tc.P 14 #[(.int .u8 (IntKind.u8.wrap n47)), (.int .i64 128)] h57 fun x129 h130 =>
 onSl x129 fun p131 l132 c133 =>
 Run tc.P 16 #[(.slice p59 l60 c61), (.slice p131 l132 c133)] h130 fun x134 h135 =>
 onB x134 fun b136 =>
 bsel (!b136) (K (.bool false) h135)
 (((0 : Int) ≤ (IntKind.i64.wrap ((IntKind.i64.wrap (32 * n45)) + n46)) ∧ (IntKind.i64.wrap ((IntKind.i64.wrap (32 * n45)) + n46)) < ((l28 : Nat) : Int)) ∧
 onO p27 fun a137 =>
 st h135 (a137.add (Int.toNat (IntKind.i64.wrap ((IntKind.i64.wrap (32 * n45)) + n46)) * 1)) #[(.slice p59 l60 c61)] fun h138 =>
 Run tc.P 17 #[(.pointer p3), (.slice p27 l28 c29), (.int .i64 n45), (.int .i64 n46)] h138 fun x139 h140 =>
 onB x139 fun b141 =>
 bsel (!b141) (K (.bool false) h140)
 (J41 ((IntKind.i64.wrap (st39.1 + 1)), ()) h140)))
 (bsel (!decide (((l60 : Nat) : Int) = 0)) (K (.bool false) h57)
 (Run tc.P 17 #[(.pointer p3), (.slice p27 l28 c29), (.int .i64 n45), (.int .i64 n46)] h57 fun x142 h143 =>
 onB x142 fun b144 =>
 bsel (!b144) (K (.bool false) h143)
 (J41 ((IntKind.i64.wrap (st39.1 + 1)), ()) h143))))))
 (bsel (!decide (n55 = 0)) (K (.bool false) h57)
 (bsel (!decide (n63 = 0)) (K (.bool false) h57)
 (bsel (decide (0 = 0)) (Run tc.P 14 #[(.int .u8 (IntKind.u8.wrap n47)), (.int .i64 128)] h57 fun x145 h146 =>
 onSl x145 fun p147 l148 c149 =>
 Run tc.P 16 #[(.slice p59 l60 c61), (.slice p147 l148 c149)] h146 fun x150 h151 =>
 onB x150 fun b152 =>
 bsel (!b152) (K (.bool false) h151)
 (((0 : Int) ≤ (IntKind.i64.wrap ((IntKind.i64.wrap (32 * n45)) + n46)) ∧ (IntKind.i64.wrap ((IntKind.i64.wrap (32 * n45)) + n46)) < ((l28 : Nat) : Int)) ∧
 onO p27 fun a153 =>
 st h151 (a153.add (Int.toNat (IntKind.i64.wrap ((IntKind.i64.wrap (32 * n45)) + n46)) * 1)) #[(.slice p59 l60 c61)] fun h154 =>
 Run tc.P 17 #[(.pointer p3), (.slice p27 l28 c29), (.int .i64 n45), (.int .i64 n46)] h154 fun x155 h156 =>
 onB x155 fun b157 =>
 bsel (!b157) (K (.bool false) h156)
 (J41 ((IntKind.i64.wrap (st39.1 + 1)), ()) h156)))
 (bsel (!decide (((l60 : Nat) : Int) = 0)) (K (.bool false) h57)
 (Run tc.P 17 #[(.pointer p3), (.slice p27 l28 c29), (.int .i64 n45), (.int .i64 n46)] h57 fun x158 h159 =>
 onB x158 fun b160 =>
 bsel (!b160) (K (.bool false) h159)
 (J41 ((IntKind.i64.wrap (st39.1 + 1)), ()) h159)))))))))))
 (Run tc.P 10 #[(.pointer p3)] h40 fun x161 h162 =>
 onSl x161 fun p163 l164 c165 =>
 bsel (!decide (((l164 : Nat) : Int) = 1024)) (K (.bool false) h162)
 (LoopI (σ := (Int) × Unit) (fun st166 h167 J168 =>
 bsel (decide (st166.1 < 1024)) (((0 : Int) ≤ st166.1 ∧ st166.1 < ((l164 : Nat) : Int)) ∧
 onO p163 fun a169 =>
 ((0 : Int) ≤ st166.1 ∧ st166.1 < ((l28 : Nat) : Int)) ∧
 onO p27 fun a170 =>
 ldS h167 (a169.add (Int.toNat st166.1 * 1)) fun p171 l172 c173 =>
 ldS h167 (a170.add (Int.toNat st166.1 * 1)) fun p174 l175 c176 =>
 Run tc.P 16 #[(.slice p171 l172 c173), (.slice p174 l175 c176)] h167 fun x177 h178 =>
 onB x177 fun b179 =>
 bsel (!b179) (K (.bool false) h178)
 (J168 ((IntKind.i64.wrap (st166.1 + 1)), ()) h178))
 (K (.bool true) h167))
 (0, ()) h162)))
 (0, ()) h37))))
 (0, ()) (h5.push (.cells (zeroOf tc.P 28) 28))))))
theorem L3_run (i0 : Option Addr) (l0 c0 : Nat) (i1 : Option Addr) (l1 c1 : Nat) (i2 : Option Addr) (l2 c2 : Nat) (h : Hp) (K : Value → Hp → Prop) (hL : L3 i0 l0 c0 i1 l1 c1 i2 l2 c2 h K) : Run tc.P 3 #[(.slice i0 l0 c0), (.slice i1 l1 c1), (.slice i2 l2 c2)] h K :=
  run_of_cwp tc_good Try.func3 { loops := [(9, [(10, .ti .i64)]), (20, [(15, .ti .i64)]), (44, [(24, .ti .i64)])], cuts := [], draws := [(17, [0, 1, 2, 3, 4, 7, 5, 6, 8, 9, 10], [5]), (22, [0, 1, 2, 3, 5, 6, 7, 8, 10, 11, 12, 13, 4, 16, 9, 17, 14, 15, 18], []), (46, [0, 1, 2, 4, 5, 6, 3, 7, 8, 9], [])] } _ _ _ ((show cwpF tc { loops := [(9, [(10, .ti .i64)]), (20, [(15, .ti .i64)]), (44, [(24, .ti .i64)])], cuts := [], draws := [(17, [0, 1, 2, 3, 4, 7, 5, 6, 8, 9, 10], [5]), (22, [0, 1, 2, 3, 5, 6, 7, 8, 10, 11, 12, 13, 4, 16, 9, 17, 14, 15, 18], []), (46, [0, 1, 2, 4, 5, 6, 3, 7, 8, 9], [])] } Try.f3 #[(.slice i0 l0 c0), (.slice i1 l1 c1), (.slice i2 l2 c2)] h K = L3 i0 l0 c0 i1 l1 c1 i2 l2 c2 h K from by kernel_rfl) ▸ hL)

def L4 (i0 : Int) (i1 : Int) (i2 : Int) (h : Hp) (K : Value → Hp → Prop) : Prop :=
 Run tc.P 18 #[] h fun x1 h2 =>
 onP x1 fun p3 =>
 (p3 = none ∨ (none : Option Addr) = none) ∧ (bsel (p3.isNone && (none : Option Addr).isNone) (K (.bool false) h2)
 (Run tc.P 8 #[(.pointer p3)] h2 fun x4 h5 =>
 onP x4 fun p6 =>
 (p6 = none ∨ (none : Option Addr) = none) ∧ (bsel (p6.isNone && (none : Option Addr).isNone) (K (.bool false) h5)
 (Run tc.P 9 #[(.pointer p6), (.int .i64 (IntKind.i64.wrap (Int.tmod (IntKind.u64.wrap i0) 32))), (.int .i64 5)] h5 fun x7 h8 =>
 onTup 0 x7 fun x9 =>
 onI .i64 x9 fun n10 =>
 onTup 1 x7 fun x11 =>
 onI .i64 x11 fun n12 =>
 bsel (!decide (n10 = (IntKind.i64.wrap (Int.tmod (IntKind.u64.wrap i0) 32)))) (K (.bool false) h8)
 (bsel (!decide (n12 = 0)) (K (.bool false) h8)
 (Run tc.P 14 #[(.int .u8 i2), (.int .i64 129)] h8 fun x13 h14 =>
 onSl x13 fun p15 l16 c17 =>
 ((0 : Int) ≤ 128 ∧ 128 ≤ ((c17 : Nat) : Int)) ∧
 Run tc.P 13 #[(.pointer p6), (.int .i64 (IntKind.i64.wrap (Int.tmod (IntKind.u64.wrap i0) 32))), (.int .i64 (IntKind.i64.wrap (Int.tmod (IntKind.u64.wrap i1) 32))), (.slice (slAddr p15 0 c17 1) ((Int.toNat 128) - 0) (c17 - 0))] h14 fun x18 h19 =>
 onI .i64 x18 fun n20 =>
 bsel (!decide (n20 = 0)) (K (.bool false) h19)
 (Run tc.P 14 #[(.int .u8 i2), (.int .i64 129)] h19 fun x21 h22 =>
 onSl x21 fun p23 l24 c25 =>
 Run tc.P 16 #[(.slice p15 l16 c17), (.slice p23 l24 c25)] h22 fun x26 h27 =>
 onB x26 fun b28 =>
 bsel (!b28) (K (.bool false) h27)
 (LoopI (σ := (Int) × Unit) (fun st29 h30 J31 =>
 bsel (decide (st29.1 < ((l16 : Nat) : Int))) (((0 : Int) ≤ st29.1 ∧ st29.1 < ((l16 : Nat) : Int)) ∧
 onO p15 fun a32 =>
 st h30 (a32.add (Int.toNat st29.1 * 1)) #[(.int .u8 (xorN .u8 i2))] fun h33 =>
 J31 ((IntKind.i64.wrap (st29.1 + 1)), ()) h33)
 (Run tc.P 15 #[(.pointer p6), (.int .i64 (IntKind.i64.wrap (Int.tmod (IntKind.u64.wrap i0) 32))), (.int .i64 (IntKind.i64.wrap (Int.tmod (IntKind.u64.wrap i1) 32)))] h30 fun x34 h35 =>
 onTup 0 x34 fun x36 =>
 onSl x36 fun p37 l38 c39 =>
 onTup 1 x34 fun x40 =>
 onI .i64 x40 fun n41 =>
 Run tc.P 15 #[(.pointer p6), (.int .i64 (IntKind.i64.wrap (Int.tmod (IntKind.u64.wrap i0) 32))), (.int .i64 (IntKind.i64.wrap (Int.tmod (IntKind.u64.wrap i1) 32)))] h35 fun x42 h43 =>
 onTup 0 x42 fun x44 =>
 onSl x44 fun p45 l46 c47 =>
 onTup 1 x42 fun x48 =>
 onI .i64 x48 fun n49 =>
 bsel (!decide (n41 = 0)) (K (.bool false) h43)
 (bsel (!decide (n49 = 0)) (K (.bool false) h43)
 (bsel (!decide (((l38 : Nat) : Int) = 128)) (K (.bool false) h43)
 (bsel (!decide (((l46 : Nat) : Int) = 128)) (K (.bool false) h43)
 (LoopI (σ := (Int) × Unit) (fun st50 h51 J52 =>
 bsel (decide (st50.1 < 128)) (((0 : Int) ≤ st50.1 ∧ st50.1 < ((l38 : Nat) : Int)) ∧
 onO p37 fun a53 =>
 st h51 (a53.add (Int.toNat st50.1 * 1)) #[(.int .u8 (IntKind.u8.wrap (i2 + 1)))] fun h54 =>
 ((0 : Int) ≤ st50.1 ∧ st50.1 < ((l46 : Nat) : Int)) ∧
 onO p45 fun a55 =>
 st h54 (a55.add (Int.toNat st50.1 * 1)) #[(.int .u8 (IntKind.u8.wrap (i2 + 2)))] fun h56 =>
 J52 ((IntKind.i64.wrap (st50.1 + 1)), ()) h56)
 (onO (fillL (zerosN (zeroOf tc.P 5) (2 * 1)).toList [(0, 1, (.int .u8 (IntKind.u8.wrap (i2 + 3)))), (1, 1, (.int .u8 (IntKind.u8.wrap (i2 + 3))))]) fun g57 =>
 apnd 5 1 1 (zeroOf tc.P 5) (.slice p37 l38 c39) (.slice (some (Addr.mk h51.size 0 none)) 2 2) (h51.push (.cells g57.toArray 5)) fun x58 h59 =>
 onO (fillL (zerosN (zeroOf tc.P 5) (2 * 1)).toList [(0, 1, (.int .u8 (IntKind.u8.wrap (i2 + 4)))), (1, 1, (.int .u8 (IntKind.u8.wrap (i2 + 4))))]) fun g60 =>
 apnd 5 1 1 (zeroOf tc.P 5) (.slice p45 l46 c47) (.slice (some (Addr.mk h59.size 0 none)) 2 2) (h59.push (.cells g60.toArray 5)) fun x61 h62 =>
 Run tc.P 11 #[(.pointer p6)] h62 fun x63 h64 =>
 onSl x63 fun p65 l66 c67 =>
 Run tc.P 11 #[(.pointer p6)] h64 fun x68 h69 =>
 onSl x68 fun p70 l71 c72 =>
 bsel (!decide (((l66 : Nat) : Int) = 1)) (K (.bool false) h69)
 (bsel (!decide (((l71 : Nat) : Int) = 1)) (K (.bool false) h69)
 (((0 : Int) ≤ 0 ∧ 0 < ((l66 : Nat) : Int)) ∧
 onO p65 fun a73 =>
 st h69 ((a73.add (Int.toNat 0 * 3)).add 0) #[(.int .i64 40)] fun h74 =>
 onO (fillL (zeroOf tc.P 49).toList [(0, 1, (.int .i64 41))]) fun g75 =>
 onO (fillL (zerosN (zeroOf tc.P 49) (1 * 3)).toList [(0, 3, (.agg g75.toArray))]) fun g76 =>
 apnd 49 3 24 (zeroOf tc.P 49) (.slice p65 l66 c67) (.slice (some (Addr.mk h74.size 0 none)) 1 1) (h74.push (.cells g76.toArray 49)) fun x77 h78 =>
 Run tc.P 15 #[(.pointer p6), (.int .i64 (IntKind.i64.wrap (Int.tmod (IntKind.u64.wrap i0) 32))), (.int .i64 (IntKind.i64.wrap (Int.tmod (IntKind.u64.wrap i1) 32)))] h78 fun x79 h80 =>
 onTup 0 x79 fun x81 =>
 onSl x81 fun p82 l83 c84 =>
 onTup 1 x79 fun x85 =>
 onI .i64 x85 fun n86 =>
 Run tc.P 19 #[(.pointer p6), (.int .i64 (IntKind.i64.wrap (Int.tmod (IntKind.u64.wrap i0) 32)))] h80 fun x87 h88 =>
 onTup 0 x87 fun x89 =>
 onI .i64 x89 fun n90 =>
 onTup 1 x87 fun x91 =>
 onI .i64 x91 fun n92 =>
 bsel (decide (n86 = 0)) (bsel (decide (n92 = 0)) (bsel (decide (n90 = 5)) (Run tc.P 14 #[(.int .u8 i2), (.int .i64 128)] h88 fun x93 h94 =>
 onSl x93 fun p95 l96 c97 =>
 Run tc.P 16 #[(.slice p82 l83 c84), (.slice p95 l96 c97)] h94 fun x98 h99 =>
 onB x98 fun b100 =>
 bsel b100 (onSl x58 fun p101 l102 c103 =>
 ((0 : Int) ≤ 128 ∧ 128 ≤ ((c103 : Nat) : Int)) ∧
 Run tc.P 14 #[(.int .u8 (IntKind.u8.wrap (i2 + 1))), (.int .i64 128)] h99 fun x104 h105 =>
 onSl x104 fun p106 l107 c108 =>
 Run tc.P 16 #[(.slice (slAddr p101 0 c103 1) ((Int.toNat 128) - 0) (c103 - 0)), (.slice p106 l107 c108)] h105 fun x109 h110 =>
 onB x109 fun b111 =>
 bsel b111 (onSl x61 fun p112 l113 c114 =>
 ((0 : Int) ≤ 128 ∧ 128 ≤ ((c114 : Nat) : Int)) ∧
 Run tc.P 14 #[(.int .u8 (IntKind.u8.wrap (i2 + 2))), (.int .i64 128)] h110 fun x115 h116 =>
 onSl x115 fun p117 l118 c119 =>
 Run tc.P 16 #[(.slice (slAddr p112 0 c114 1) ((Int.toNat 128) - 0) (c114 - 0)), (.slice p117 l118 c119)] h116 fun x120 h121 =>
 onB x120 fun b122 =>
 bsel b122 (((0 : Int) ≤ 0 ∧ 0 < ((l71 : Nat) : Int)) ∧
 onO p70 fun a123 =>
 onO (fillL (zeroOf tc.P 49).toList [(0, 1, (.int .i64 (IntKind.i64.wrap (Int.tmod (IntKind.u64.wrap i0) 32)))), (1, 1, (.int .i64 5)), (2, 1, (.int .i64 1))]) fun g124 =>
 ldR h121 (a123.add (Int.toNat 0 * 3)) 3 fun g125 =>
 g125.size = 3 ∧ g124.toArray.size = 3 ∧ ∃ r126, eqInts g125.toList g124.toArray.toList = some r126 ∧ (bsel r126 (onSl x77 fun p127 l128 c129 =>
 ((0 : Int) ≤ 0 ∧ 0 < ((l128 : Nat) : Int)) ∧
 onO p127 fun a130 =>
 ldI h121 ((a130.add (Int.toNat 0 * 3)).add 0) .i64 fun n131 =>
 K (.bool (decide (n131 = 40))) h121)
 (K (.bool false) h121)))
 (K (.bool false) h121))
 (K (.bool false) h110))
 (K (.bool false) h99))
 (K (.bool false) h88))
 (K (.bool false) h88))
 (K (.bool false) h88)))))
 (0, ()) h43))))))
 (0, ()) h27))))))))
theorem L4_run (i0 : Int) (i1 : Int) (i2 : Int) (h : Hp) (K : Value → Hp → Prop) (hL : L4 i0 i1 i2 h K) : Run tc.P 4 #[(.int .i64 i0), (.int .i64 i1), (.int .u8 i2)] h K :=
  run_of_cwp tc_good Try.func4 { loops := [(16, [(12, .ti .i64)]), (24, [(17, .ti .i64)])], cuts := [], draws := [(38, [0, 1, 2, 3, 4, 5, 6, 7, 8, 9, 10, 11, 12, 13, 14, 15, 16, 17, 18, 19, 20, 21, 22, 23, 24, 25, 26, 27, 28, 29, 30, 31, 32, 33, 34, 36, 37, 35, 38, 39, 40, 41, 42, 43, 44, 45, 46, 47], [])] } _ _ _ ((show cwpF tc { loops := [(16, [(12, .ti .i64)]), (24, [(17, .ti .i64)])], cuts := [], draws := [(38, [0, 1, 2, 3, 4, 5, 6, 7, 8, 9, 10, 11, 12, 13, 14, 15, 16, 17, 18, 19, 20, 21, 22, 23, 24, 25, 26, 27, 28, 29, 30, 31, 32, 33, 34, 36, 37, 35, 38, 39, 40, 41, 42, 43, 44, 45, 46, 47], [])] } Try.f4 #[(.int .i64 i0), (.int .i64 i1), (.int .u8 i2)] h K = L4 i0 i1 i2 h K from by kernel_rfl) ▸ hL)

def L5 (i0 : Option Addr) (l0 c0 : Nat) (i1 : Option Addr) (l1 c1 : Nat) (i2 : Option Addr) (l2 c2 : Nat) (h : Hp) (K : Value → Hp → Prop) : Prop :=
 Run tc.P 7 #[(.slice i0 l0 c0)] h fun x1 h2 =>
 onP x1 fun p3 =>
 (p3 = none ∨ (none : Option Addr) = none) ∧ (bsel (p3.isNone && (none : Option Addr).isNone) (K (.bool false) h2)
 (Run tc.P 8 #[(.pointer p3)] h2 fun x4 h5 =>
 onP x4 fun p6 =>
 (p6 = none ∨ (none : Option Addr) = none) ∧ (bsel (p6.isNone && (none : Option Addr).isNone) (K (.bool false) h5)
 (Run tc.P 9 #[(.pointer p6), (.int .i64 3), (.int .i64 9)] h5 fun x7 h8 =>
 onTup 0 x7 fun x9 =>
 onI .i64 x9 fun n10 =>
 onTup 1 x7 fun x11 =>
 onI .i64 x11 fun n12 =>
 bsel (!decide (n10 = 3)) (K (.bool false) h8)
 (bsel (!decide (n12 = 0)) (K (.bool false) h8)
 (Run tc.P 14 #[(.int .u8 195), (.int .i64 128)] h8 fun x13 h14 =>
 onSl x13 fun p15 l16 c17 =>
 Run tc.P 13 #[(.pointer p6), (.int .i64 3), (.int .i64 31), (.slice p15 l16 c17)] h14 fun x18 h19 =>
 onI .i64 x18 fun n20 =>
 bsel (!decide (n20 = 0)) (K (.bool false) h19)
 (Run tc.P 20 #[(.pointer p3)] h19 fun x21 h22 =>
 onSl x21 fun p23 l24 c25 =>
 Run tc.P 21 #[(.pointer p3), (.int .i64 0)] h22 fun x26 h27 =>
 onI .i64 x26 fun n28 =>
 bsel (!decide (n28 = 0)) (K (.bool false) h27)
 (Run tc.P 22 #[(.pointer p6)] h27 fun x29 h30 =>
 onI .i64 x29 fun n31 =>
 bsel (!decide (n31 = 42)) (K (.bool false) h30)
 (Run tc.P 23 #[(.pointer p3)] h30 fun x32 h33 =>
 onB x32 fun b34 =>
 bsel (!b34) (K (.bool false) h33)
 (LoopI (σ := (Int) × Unit) (fun st35 h36 J37 =>
 bsel (decide (st35.1 < ((l1 : Nat) : Int))) (((0 : Int) ≤ st35.1 ∧ st35.1 < ((l1 : Nat) : Int)) ∧
 onO i1 fun a38 =>
 ldI h36 (a38.add (Int.toNat st35.1 * 1)) .i64 fun n39 =>
 Run tc.P 9 #[(.pointer p6), (.int .i64 (IntKind.i64.wrap (Int.tmod (IntKind.u64.wrap n39) 32))), (.int .i64 (IntKind.i64.wrap (st35.1 + 10)))] h36 fun x40 h41 =>
 onTup 0 x40 fun x42 =>
 onI .i64 x42 fun n43 =>
 onTup 1 x40 fun x44 =>
 onI .i64 x44 fun n45 =>
 bsel (decide ((IntKind.i64.wrap (Int.tmod (IntKind.u64.wrap n39) 32)) = 3)) (bsel (!(true == (decide (n45 = 101)))) (K (.bool false) h41)
 (bsel (!((decide (n45 = 0)) == (decide (n43 = (IntKind.i64.wrap (Int.tmod (IntKind.u64.wrap n39) 32)))))) (K (.bool false) h41)
 (Run tc.P 19 #[(.pointer p6), (.int .i64 (IntKind.i64.wrap (Int.tmod (IntKind.u64.wrap n39) 32)))] h41 fun x46 h47 =>
 onTup 0 x46 fun x48 =>
 onI .i64 x48 fun n49 =>
 onTup 1 x46 fun x50 =>
 onI .i64 x50 fun n51 =>
 bsel (!decide (n51 = 0)) (K (.bool false) h47)
 (bsel (decide (n45 = 0)) (bsel (!decide (n49 = (IntKind.i64.wrap (st35.1 + 10)))) (K (.bool false) h47)
 (bsel (decide ((IntKind.i64.wrap (Int.tmod (IntKind.u64.wrap n39) 32)) = 3)) (bsel (!decide (n49 = 9)) (K (.bool false) h47)
 (J37 ((IntKind.i64.wrap (st35.1 + 1)), ()) h47))
 (J37 ((IntKind.i64.wrap (st35.1 + 1)), ()) h47)))
 (bsel (decide ((IntKind.i64.wrap (Int.tmod (IntKind.u64.wrap n39) 32)) = 3)) (bsel (!decide (n49 = 9)) (K (.bool false) h47)
 (J37 ((IntKind.i64.wrap (st35.1 + 1)), ()) h47))
 (J37 ((IntKind.i64.wrap (st35.1 + 1)), ()) h47))))))
 (((0 : Int) ≤ st35.1 ∧ st35.1 ≤ ((c1 : Nat) : Int)) ∧
 Run tc.P 24 #[(.slice (slAddr i1 0 c1 1) ((Int.toNat st35.1) - 0) (c1 - 0)), (.int .i64 (IntKind.i64.wrap (Int.tmod (IntKind.u64.wrap n39) 32)))] h41 fun x52 h53 =>
 onB x52 fun b54 =>
 bsel (!(b54 == (decide (n45 = 101)))) (K (.bool false) h53)
 (bsel (!((decide (n45 = 0)) == (decide (n43 = (IntKind.i64.wrap (Int.tmod (IntKind.u64.wrap n39) 32)))))) (K (.bool false) h53)
 (Run tc.P 19 #[(.pointer p6), (.int .i64 (IntKind.i64.wrap (Int.tmod (IntKind.u64.wrap n39) 32)))] h53 fun x55 h56 =>
 onTup 0 x55 fun x57 =>
 onI .i64 x57 fun n58 =>
 onTup 1 x55 fun x59 =>
 onI .i64 x59 fun n60 =>
 bsel (!decide (n60 = 0)) (K (.bool false) h56)
 (bsel (decide (n45 = 0)) (bsel (!decide (n58 = (IntKind.i64.wrap (st35.1 + 10)))) (K (.bool false) h56)
 (bsel (decide ((IntKind.i64.wrap (Int.tmod (IntKind.u64.wrap n39) 32)) = 3)) (bsel (!decide (n58 = 9)) (K (.bool false) h56)
 (J37 ((IntKind.i64.wrap (st35.1 + 1)), ()) h56))
 (J37 ((IntKind.i64.wrap (st35.1 + 1)), ()) h56)))
 (bsel (decide ((IntKind.i64.wrap (Int.tmod (IntKind.u64.wrap n39) 32)) = 3)) (bsel (!decide (n58 = 9)) (K (.bool false) h56)
 (J37 ((IntKind.i64.wrap (st35.1 + 1)), ()) h56))
 (J37 ((IntKind.i64.wrap (st35.1 + 1)), ()) h56)))))))
 (Run tc.P 15 #[(.pointer p6), (.int .i64 3), (.int .i64 31)] h36 fun x61 h62 =>
 onTup 0 x61 fun x63 =>
 onSl x63 fun p64 l65 c66 =>
 onTup 1 x61 fun x67 =>
 onI .i64 x67 fun n68 =>
 bsel (!decide (((l65 : Nat) : Int) = 0)) (K (.bool false) h62)
 (bsel (!decide (n68 = 42)) (K (.bool false) h62)
 (Run tc.P 14 #[(.int .u8 1), (.int .i64 128)] h62 fun x69 h70 =>
 onSl x69 fun p71 l72 c73 =>
 Run tc.P 13 #[(.pointer p6), (.int .i64 3), (.int .i64 0), (.slice p71 l72 c73)] h70 fun x74 h75 =>
 onI .i64 x74 fun n76 =>
 bsel (!decide (n76 = 42)) (K (.bool false) h75)
 (Run tc.P 13 #[(.pointer p6), (.int .i64 3), (.int .i64 0), (.slice none 0 0)] h75 fun x77 h78 =>
 onI .i64 x77 fun n79 =>
 bsel (!decide (n79 = 41)) (K (.bool false) h78)
 (Run tc.P 13 #[(.pointer p6), (.int .i64 3), (.int .i64 32), (.slice none 0 0)] h78 fun x80 h81 =>
 onI .i64 x80 fun n82 =>
 bsel (!decide (n82 = 40)) (K (.bool false) h81)
 (Run tc.P 25 #[(.pointer p6), (.int .i64 3)] h81 fun x83 h84 =>
 onI .i64 x83 fun n85 =>
 bsel (!decide (n85 = 0)) (K (.bool false) h84)
 (Run tc.P 20 #[(.pointer p3)] h84 fun x86 h87 =>
 onSl x86 fun p88 l89 c90 =>
 bsel (!decide (((l89 : Nat) : Int) = ((l24 : Nat) : Int))) (K (.bool false) h87)
 (Run tc.P 23 #[(.pointer p3)] h87 fun x91 h92 =>
 onB x91 fun b93 =>
 bsel (!b93) (K (.bool false) h92)
 (mkSl 4 1 1 (zeroOf tc.P 4) (.int .i64 ((l0 : Nat) : Int)) (.int .i64 ((l0 : Nat) : Int)) h92 fun x94 h95 =>
 Run tc.P 27 #[x94] h95 fun x96 h97 =>
 onSl x96 fun p98 l99 c100 =>
 apnd 4 1 1 (zeroOf tc.P 4) (.slice p98 l99 c100) (.slice i2 l2 c2) h97 fun x101 h102 =>
 Run tc.P 27 #[x101] h102 fun x103 h104 =>
 onSl x103 fun p105 l106 c107 =>
 Run tc.P 26 #[(.pointer p3), (.slice p105 l106 c107)] h104 fun x108 h109 =>
 onI .i64 x108 fun n110 =>
 Run tc.P 8 #[(.pointer p3)] h109 fun x111 h112 =>
 onP x111 fun p113 =>
 (p113 = none ∨ (none : Option Addr) = none) ∧ (bsel (p113.isNone && (none : Option Addr).isNone) (K (.bool false) h112)
 (Run tc.P 11 #[(.pointer p113)] h112 fun x114 h115 =>
 onSl x114 fun p116 l117 c118 =>
 bsel (!decide (((l117 : Nat) : Int) = 0)) (K (.bool false) h115)
 (Run tc.P 9 #[(.pointer p113), (.int .i64 3), (.int .i64 11)] h115 fun x119 h120 =>
 onTup 0 x119 fun x121 =>
 onI .i64 x121 fun n122 =>
 onTup 1 x119 fun x123 =>
 onI .i64 x123 fun n124 =>
 bsel (!decide (n122 = 3)) (K (.bool false) h120)
 (bsel (!decide (n124 = 0)) (K (.bool false) h120)
 (Run tc.P 15 #[(.pointer p113), (.int .i64 3), (.int .i64 31)] h120 fun x125 h126 =>
 onTup 0 x125 fun x127 =>
 onSl x127 fun p128 l129 c130 =>
 onTup 1 x125 fun x131 =>
 onI .i64 x131 fun n132 =>
 bsel (decide (0 < ((l2 : Nat) : Int))) (((0 : Int) ≤ 0 ∧ 0 < ((l2 : Nat) : Int)) ∧
 onO i2 fun a133 =>
 ldB h126 (a133.add (Int.toNat 0 * 1)) fun b134 =>
 bsel (decide (n132 = 0)) (bsel (b134 == (decide (n110 = 1))) (Run tc.P 14 #[(.int .u8 195), (.int .i64 128)] h126 fun x135 h136 =>
 onSl x135 fun p137 l138 c139 =>
 Run tc.P 16 #[(.slice p128 l129 c130), (.slice p137 l138 c139)] h136 fun x140 h141 =>
 onB x140 fun b142 =>
 bsel (b142 == b134) (bsel b134 (K (.bool true) h141)
 (Run tc.P 14 #[(.int .u8 0), (.int .i64 128)] h141 fun x143 h144 =>
 onSl x143 fun p145 l146 c147 =>
 Run tc.P 16 #[(.slice p128 l129 c130), (.slice p145 l146 c147)] h144 fun x148 h149 =>
 onB x148 fun b150 =>
 K (.bool b150) h149))
 (K (.bool false) h141))
 (K (.bool false) h126))
 (K (.bool false) h126))
 (bsel (decide (n132 = 0)) (bsel (false == (decide (n110 = 1))) (Run tc.P 14 #[(.int .u8 195), (.int .i64 128)] h126 fun x151 h152 =>
 onSl x151 fun p153 l154 c155 =>
 Run tc.P 16 #[(.slice p128 l129 c130), (.slice p153 l154 c155)] h152 fun x156 h157 =>
 onB x156 fun b158 =>
 bsel (b158 == false) (Run tc.P 14 #[(.int .u8 0), (.int .i64 128)] h157 fun x159 h160 =>
 onSl x159 fun p161 l162 c163 =>
 Run tc.P 16 #[(.slice p128 l129 c130), (.slice p161 l162 c163)] h160 fun x164 h165 =>
 onB x164 fun b166 =>
 K (.bool b166) h165)
 (K (.bool false) h157))
 (K (.bool false) h126))
 (K (.bool false) h126)))))))))))))))))
 (0, ()) h33))))))))))
theorem L5_run (i0 : Option Addr) (l0 c0 : Nat) (i1 : Option Addr) (l1 c1 : Nat) (i2 : Option Addr) (l2 c2 : Nat) (h : Hp) (K : Value → Hp → Prop) (hL : L5 i0 l0 c0 i1 l1 c1 i2 l2 c2 h K) : Run tc.P 5 #[(.slice i0 l0 c0), (.slice i1 l1 c1), (.slice i2 l2 c2)] h K :=
  run_of_cwp tc_good Try.func5 { loops := [(14, [(12, .ti .i64)])], cuts := [], draws := [] } _ _ _ ((show cwpF tc { loops := [(14, [(12, .ti .i64)])], cuts := [], draws := [] } Try.f5 #[(.slice i0 l0 c0), (.slice i1 l1 c1), (.slice i2 l2 c2)] h K = L5 i0 l0 c0 i1 l1 c1 i2 l2 c2 h K from by kernel_rfl) ▸ hL)

def L6 (i0 : Option Addr) (l0 c0 : Nat) (h : Hp) (K : Value → Hp → Prop) : Prop :=
 Run tc.P 18 #[] h fun x1 h2 =>
 onP x1 fun p3 =>
 (p3 = none ∨ (none : Option Addr) = none) ∧ (bsel (p3.isNone && (none : Option Addr).isNone) (K (.bool false) h2)
 (Run tc.P 8 #[(.pointer none)] h2 fun x4 h5 =>
 onP x4 fun p6 =>
 (p6 = none ∨ (none : Option Addr) = none) ∧ (bsel (!(p6.isNone && (none : Option Addr).isNone)) (K (.bool false) h5)
 (Run tc.P 8 #[(.pointer p3)] h5 fun x7 h8 =>
 onP x7 fun p9 =>
 Run tc.P 8 #[(.pointer p3)] h8 fun x10 h11 =>
 onP x10 fun p12 =>
 (p9 = none ∨ (none : Option Addr) = none) ∧ (bsel (p9.isNone && (none : Option Addr).isNone) (K (.bool false) h11)
 ((p12 = none ∨ (none : Option Addr) = none) ∧ (bsel (p12.isNone && (none : Option Addr).isNone) (K (.bool false) h11)
 (Run tc.P 28 #[] h11 fun x13 h14 =>
 onP x13 fun p15 =>
 Run tc.P 29 #[(.pointer p15)] h14 fun x16 h17 =>
 onP x16 fun p18 =>
 Run tc.P 29 #[(.pointer p15)] h17 fun x19 h20 =>
 onP x19 fun p21 =>
 LoopI (σ := (Option Addr) × (Option Addr) × (Option Addr) × (Option Addr) × (Int) × Unit) (fun st22 h23 J24 =>
 bsel (decide (st22.2.2.2.2.1 < ((l0 : Nat) : Int))) (((0 : Int) ≤ st22.2.2.2.2.1 ∧ st22.2.2.2.2.1 < ((l0 : Nat) : Int)) ∧
 onO i0 fun a25 =>
 ldR h23 (a25.add (Int.toNat st22.2.2.2.2.1 * 8)) 8 fun g26 =>
 szIs g26.size 8 (
 st (h23.push (.cells (zeroOf tc.P 67) 67)) (Addr.mk h23.size 0 none) g26 fun h27 =>
 ldI h27 ((Addr.mk h23.size 0 none).add 0) .i64 fun n28 =>
 bsel (decide (n28 = 12)) (Run tc.P 8 #[(.pointer p3)] h27 fun x29 h30 =>
 onP x29 fun p31 =>
 (p31 = none ∨ (none : Option Addr) = none) ∧ (bsel (p31.isNone && (none : Option Addr).isNone) (K (.bool false) h30)
 (ldB h30 ((Addr.mk h23.size 0 none).add 1) fun b32 =>
 bsel b32 (Run tc.P 29 #[(.pointer p15)] h30 fun x33 h34 =>
 onP x33 fun p35 =>
 J24 (st22.1, p31, st22.2.2.1, p35, (IntKind.i64.wrap (st22.2.2.2.2.1 + 1)), ()) h34)
 (Run tc.P 29 #[(.pointer p15)] h30 fun x36 h37 =>
 onP x36 fun p38 =>
 J24 (p31, st22.2.1, p38, st22.2.2.2.1, (IntKind.i64.wrap (st22.2.2.2.2.1 + 1)), ()) h37))))
 (ldB h27 ((Addr.mk h23.size 0 none).add 1) fun b39 =>
 bsel b39 (ldR h27 (Addr.mk h23.size 0 none) 8 fun g40 =>
 Run tc.P 30 #[(.pointer st22.2.1), (.pointer p3), (.pointer st22.2.2.2.1), (.agg g40)] h27 fun x41 h42 =>
 onB x41 fun b43 =>
 bsel (!b43) (K (.bool false) h42)
 (J24 (st22.1, st22.2.1, st22.2.2.1, st22.2.2.2.1, (IntKind.i64.wrap (st22.2.2.2.2.1 + 1)), ()) h42))
 (ldR h27 (Addr.mk h23.size 0 none) 8 fun g44 =>
 Run tc.P 30 #[(.pointer st22.1), (.pointer p3), (.pointer st22.2.2.1), (.agg g44)] h27 fun x45 h46 =>
 onB x45 fun b47 =>
 bsel (!b47) (K (.bool false) h46)
 (J24 (st22.1, st22.2.1, st22.2.2.1, st22.2.2.2.1, (IntKind.i64.wrap (st22.2.2.2.2.1 + 1)), ()) h46)))))
 (LoopI (σ := (Int) × Unit) (fun st48 h49 J50 =>
 bsel (decide (st48.1 < ((l0 : Nat) : Int))) (((0 : Int) ≤ st48.1 ∧ st48.1 < ((l0 : Nat) : Int)) ∧
 onO i0 fun a51 =>
 ldR h49 (a51.add (Int.toNat st48.1 * 8)) 8 fun g52 =>
 szIs g52.size 8 (
 st (h49.push (.cells (zeroOf tc.P 67) 67)) (Addr.mk h49.size 0 none) g52 fun h53 =>
 ldI h53 ((Addr.mk h49.size 0 none).add 0) .i64 fun n54 =>
 bsel (decide (n54 = 6)) (ldI h53 ((Addr.mk h49.size 0 none).add 2) .i64 fun n55 =>
 ldI h53 ((Addr.mk h49.size 0 none).add 3) .i64 fun n56 =>
 onO (fillL (zeroOf tc.P 67).toList [(0, 1, (.int .i64 11)), (3, 1, (.int .i64 (IntKind.i64.wrap ((IntKind.i64.wrap (n55 * 32)) + n56))))]) fun g57 =>
 Run tc.P 30 #[(.pointer st22.1), (.pointer p3), (.pointer st22.2.2.1), (.agg g57.toArray)] h53 fun x58 h59 =>
 onB x58 fun b60 =>
 bsel (!b60) (K (.bool false) h59)
 (J50 ((IntKind.i64.wrap (st48.1 + 1)), ()) h59))
 (J50 ((IntKind.i64.wrap (st48.1 + 1)), ()) h53)))
 (onO (fillL (zeroOf tc.P 67).toList [(0, 1, (.int .i64 8))]) fun g61 =>
 Run tc.P 30 #[(.pointer st22.1), (.pointer p3), (.pointer st22.2.2.1), (.agg g61.toArray)] h49 fun x62 h63 =>
 onB x62 fun b64 =>
 bsel b64 (onO (fillL (zeroOf tc.P 67).toList [(0, 1, (.int .i64 8))]) fun g65 =>
 Run tc.P 30 #[(.pointer st22.2.1), (.pointer p3), (.pointer st22.2.2.2.1), (.agg g65.toArray)] h63 fun x66 h67 =>
 onB x66 fun b68 =>
 bsel b68 (onO (fillL (zeroOf tc.P 67).toList [(0, 1, (.int .i64 13))]) fun g69 =>
 Run tc.P 30 #[(.pointer st22.1), (.pointer p3), (.pointer st22.2.2.1), (.agg g69.toArray)] h67 fun x70 h71 =>
 onB x70 fun b72 =>
 K (.bool b72) h71)
 (K (.bool false) h67))
 (K (.bool false) h63)))
 (0, ()) h23))
 (p9, p12, p18, p21, 0, ()) h20))))))))
theorem L6_run (i0 : Option Addr) (l0 c0 : Nat) (h : Hp) (K : Value → Hp → Prop) (hL : L6 i0 l0 c0 h K) : Run tc.P 6 #[(.slice i0 l0 c0)] h K :=
  run_of_cwp tc_good Try.func6 { loops := [(12, [(4, .tp), (5, .tp), (7, .tp), (8, .tp), (9, .ti .i64)]), (30, [(14, .ti .i64)])], cuts := [], draws := [] } _ _ _ ((show cwpF tc { loops := [(12, [(4, .tp), (5, .tp), (7, .tp), (8, .tp), (9, .ti .i64)]), (30, [(14, .ti .i64)])], cuts := [], draws := [] } Try.f6 #[(.slice i0 l0 c0)] h K = L6 i0 l0 c0 h K from by kernel_rfl) ▸ hL)

def L7 (i0 : Option Addr) (l0 c0 : Nat) (h : Hp) (K : Value → Hp → Prop) : Prop :=
 Run tc.P 18 #[] h fun x1 h2 =>
 onP x1 fun p3 =>
 (p3 = none ∨ (none : Option Addr) = none) ∧ (bsel (p3.isNone && (none : Option Addr).isNone) (K (.pointer none) h2)
 (LoopI (σ := (Int) × Unit) (fun st4 h5 J6 =>
 bsel (decide (st4.1 < ((l0 : Nat) : Int))) (((0 : Int) ≤ st4.1 ∧ st4.1 < ((l0 : Nat) : Int)) ∧
 onO i0 fun a7 =>
 ldI h5 (a7.add (Int.toNat st4.1 * 1)) .i64 fun n8 =>
 Run tc.P 14 #[(.int .u8 (IntKind.u8.wrap (IntKind.i64.wrap (st4.1 + 1)))), (.int .i64 128)] h5 fun x9 h10 =>
 onSl x9 fun p11 l12 c13 =>
 Run tc.P 31 #[(.pointer p3), (.int .i64 (IntKind.i64.wrap (Int.tmod (IntKind.u64.wrap n8) 1024))), (.slice p11 l12 c13)] h10 fun x14 h15 =>
 onI .i64 x14 fun n16 =>
 bsel (!decide (n16 = 0)) (K (.pointer none) h15)
 (J6 ((IntKind.i64.wrap (st4.1 + 1)), ()) h15))
 (K (.pointer p3) h5))
 (0, ()) h2))
theorem L7_run (i0 : Option Addr) (l0 c0 : Nat) (h : Hp) (K : Value → Hp → Prop) (hL : L7 i0 l0 c0 h K) : Run tc.P 7 #[(.slice i0 l0 c0)] h K :=
  run_of_cwp tc_good Try.func7 { loops := [(5, [(4, .ti .i64)])], cuts := [], draws := [] } _ _ _ ((show cwpF tc { loops := [(5, [(4, .ti .i64)])], cuts := [], draws := [] } Try.f7 #[(.slice i0 l0 c0)] h K = L7 i0 l0 c0 h K from by kernel_rfl) ▸ hL)

def L8 (i0 : Option Addr) (h : Hp) (K : Value → Hp → Prop) : Prop :=
 (i0 = none ∨ (none : Option Addr) = none) ∧ (bsel (i0.isNone && (none : Option Addr).isNone) (K (.pointer none) h)
 (Run tc.P 32 #[(.int .i64 32)] h fun x1 h2 =>
 onP x1 fun p3 =>
 onO (fillL (zeroOf tc.P 76).toList [(0, 1, (.iface 24 (.pointer i0))), (1, 1, (.pointer p3))]) fun g4 =>
 K (.pointer (some (Addr.mk h2.size 0 none))) (h2.push (.cells g4.toArray 76))))
theorem L8_run (i0 : Option Addr) (h : Hp) (K : Value → Hp → Prop) (hL : L8 i0 h K) : Run tc.P 8 #[(.pointer i0)] h K :=
  run_of_cwp tc_good Try.func8 { loops := [], cuts := [], draws := [] } _ _ _ ((show cwpF tc { loops := [], cuts := [], draws := [] } Try.f8 #[(.pointer i0)] h K = L8 i0 h K from by kernel_rfl) ▸ hL)

def L9 (i0 : Option Addr) (i1 : Int) (i2 : Int) (h : Hp) (K : Value → Hp → Prop) : Prop :=
 bsel (decide (i2 < 1)) (K (.tuple #[(.int .i64 (-1)), (.int .i64 1)]) h)
 (bsel (decide (4611686018427387903 < i2)) (K (.tuple #[(.int .i64 (-1)), (.int .i64 1)]) h)
 (onO (fillL (zeroOf tc.P 49).toList [(0, 1, (.int .i64 i1)), (1, 1, (.int .i64 i2)), (2, 1, (.int .i64 1))]) fun g1 =>
 szIs g1.toArray.size 3 (
 st (h.push (.cells (zeroOf tc.P 49) 49)) (Addr.mk h.size 0 none) g1.toArray fun h2 =>
 bsel (decide (i1 = (-1))) (onPtr (.pointer i0) fun a3 =>
 ldP h2 (a3.add 1) fun p4 =>
 ldR h2 (Addr.mk h.size 0 none) 3 fun g5 =>
 Run tc.P 33 #[(.pointer p4), (.agg g5)] h2 fun x6 h7 =>
 onTup 0 x6 fun x8 =>
 onI .i64 x8 fun n9 =>
 onTup 1 x6 fun x10 =>
 onI .i64 x10 fun n11 =>
 bsel (!decide (n11 = 0)) (K (.tuple #[(.int .i64 (-1)), (.int .i64 2)]) h7)
 (st h7 ((Addr.mk h.size 0 none).add 0) #[(.int .i64 n9)] fun h12 =>
 onPtr (.pointer i0) fun a13 =>
 ldP h12 (a13.add 1) fun p14 =>
 ldR h12 (Addr.mk h.size 0 none) 3 fun g15 =>
 Run tc.P 34 #[(.pointer p14), (.int .i64 n9), (.agg g15)] h12 fun x16 h17 =>
 onB x16 fun b18 =>
 K (.tuple #[(.int .i64 n9), (.int .i64 0)]) h17))
 (bsel (decide (i1 < 0)) (K (.tuple #[(.int .i64 (-1)), (.int .i64 100)]) h2)
 (bsel (decide (32 ≤ i1)) (K (.tuple #[(.int .i64 (-1)), (.int .i64 100)]) h2)
 (onPtr (.pointer i0) fun a19 =>
 ldP h2 (a19.add 1) fun p20 =>
 ldR h2 (Addr.mk h.size 0 none) 3 fun g21 =>
 Run tc.P 35 #[(.pointer p20), (.int .i64 i1), (.agg g21)] h2 fun x22 h23 =>
 onI .i64 x22 fun n24 =>
 bsel (!decide (n24 = 0)) (K (.tuple #[(.int .i64 (-1)), (.int .i64 101)]) h23)
 (K (.tuple #[(.int .i64 i1), (.int .i64 0)]) h23)))))))
theorem L9_run (i0 : Option Addr) (i1 : Int) (i2 : Int) (h : Hp) (K : Value → Hp → Prop) (hL : L9 i0 i1 i2 h K) : Run tc.P 9 #[(.pointer i0), (.int .i64 i1), (.int .i64 i2)] h K :=
  run_of_cwp tc_good Try.func9 { loops := [], cuts := [], draws := [(5, [0, 1, 2, 3, 4, 5, 6, 7, 8, 9, 10], []), (9, [0, 1, 2, 4, 3, 5, 6], []), (13, [0, 1, 2, 4, 3, 5, 6, 7], [])] } _ _ _ ((show cwpF tc { loops := [], cuts := [], draws := [(5, [0, 1, 2, 3, 4, 5, 6, 7, 8, 9, 10], []), (9, [0, 1, 2, 4, 3, 5, 6], []), (13, [0, 1, 2, 4, 3, 5, 6, 7], [])] } Try.f9 #[(.pointer i0), (.int .i64 i1), (.int .i64 i2)] h K = L9 i0 i1 i2 h K from by kernel_rfl) ▸ hL)

def L10 (i0 : Option Addr) (h : Hp) (K : Value → Hp → Prop) : Prop :=
 LoopI (σ := (Option Addr × Nat × Nat) × (Int) × Unit) (fun st1 h2 J3 =>
 bsel (decide (st1.2.1 < 1024)) (Run tc.P 36 #[(.pointer i0), (.int .i64 st1.2.1)] h2 fun x4 h5 =>
 onTup 0 x4 fun x6 =>
 onSl x6 fun p7 l8 c9 =>
 onTup 1 x4 fun x10 =>
 onI .i64 x10 fun n11 =>
 bsel (!decide (n11 = 0)) (K (.slice none 0 0) h5)
 (bsel (!decide (((l8 : Nat) : Int) = 128)) (K (.slice none 0 0) h5)
 (onO (fillL (zerosN (zeroOf tc.P 40) (1 * 1)).toList [(0, 1, (.slice p7 l8 c9))]) fun g12 =>
 apnd 40 1 24 (zeroOf tc.P 40) (.slice st1.1.1 st1.1.2.1 st1.1.2.2) (.slice (some (Addr.mk h5.size 0 none)) 1 1) (h5.push (.cells g12.toArray 40)) fun x13 h14 =>
 onSl x13 fun p15 l16 c17 =>
 J3 ((p15, l16, c17), (IntKind.i64.wrap (st1.2.1 + 1)), ()) h14)))
 (K (.slice st1.1.1 st1.1.2.1 st1.1.2.2) h2))
 ((none, 0, 0), 0, ()) h
theorem L10_run (i0 : Option Addr) (h : Hp) (K : Value → Hp → Prop) (hL : L10 i0 h K) : Run tc.P 10 #[(.pointer i0)] h K :=
  run_of_cwp tc_good Try.func10 { loops := [(3, [(3, .ts), (4, .ti .i64)])], cuts := [], draws := [] } _ _ _ ((show cwpF tc { loops := [(3, [(3, .ts), (4, .ti .i64)])], cuts := [], draws := [] } Try.f10 #[(.pointer i0)] h K = L10 i0 h K from by kernel_rfl) ▸ hL)

def L12 (i0 : Array Value) (h : Hp) (K : Value → Hp → Prop) : Prop :=
 LoopI (σ := (Int) × (Int) × Unit) (fun st1 h2 J3 =>
 bsel (decide (st1.2.1 < 32)) (((0 : Int) ≤ st1.2.1 ∧ st1.2.1 < (32 : Int)) ∧
 ldB h2 ((Addr.mk h.size 0 none).add (Int.toNat st1.2.1 * 1)) fun b4 =>
 bsel b4 (J3 ((IntKind.i64.wrap (st1.1 + 1)), (IntKind.i64.wrap (st1.2.1 + 1)), ()) h2)
 (J3 (st1.1, (IntKind.i64.wrap (st1.2.1 + 1)), ()) h2))
 (K (.int .i64 st1.1) h2))
 (0, 0, ()) (h.push (.cells i0 28))
theorem L12_run (i0 : Array Value) (h : Hp) (K : Value → Hp → Prop) (hL : L12 i0 h K) : Run tc.P 12 #[(.agg i0)] h K :=
  run_of_cwp tc_good Try.func12 { loops := [(3, [(3, .ti .i64), (4, .ti .i64)])], cuts := [], draws := [] } _ _ _ ((show cwpF tc { loops := [(3, [(3, .ti .i64), (4, .ti .i64)])], cuts := [], draws := [] } Try.f12 #[(.agg i0)] h K = L12 i0 h K from by kernel_rfl) ▸ hL)

def L13 (i0 : Option Addr) (i1 : Int) (i2 : Int) (i3 : Option Addr) (l3 c3 : Nat) (h : Hp) (K : Value → Hp → Prop) : Prop :=
 Run tc.P 38 #[(.pointer i0), (.int .i64 i1), (.int .i64 i2)] h fun x1 h2 =>
 onTup 0 x1 fun x3 =>
 onI .i64 x3 fun n4 =>
 onTup 1 x1 fun x5 =>
 onI .i64 x5 fun n6 =>
 bsel (!decide (n6 = 0)) (K (.int .i64 n6) h2)
 (onPtr (.pointer i0) fun a7 =>
 ld1 h2 (a7.add 0) fun x8 =>
 invk tc x8 "Write" #[(.int .i64 n4), (.slice i3 l3 c3)] h2 fun x9 h10 =>
 onI .i64 x9 fun n11 =>
 K (.int .i64 n11) h10)
theorem L13_run (i0 : Option Addr) (i1 : Int) (i2 : Int) (i3 : Option Addr) (l3 c3 : Nat) (h : Hp) (K : Value → Hp → Prop) (hL : L13 i0 i1 i2 i3 l3 c3 h K) : Run tc.P 13 #[(.pointer i0), (.int .i64 i1), (.int .i64 i2), (.slice i3 l3 c3)] h K :=
  run_of_cwp tc_good Try.func13 { loops := [], cuts := [], draws := [] } _ _ _ ((show cwpF tc { loops := [], cuts := [], draws := [] } Try.f13 #[(.pointer i0), (.int .i64 i1), (.int .i64 i2), (.slice i3 l3 c3)] h K = L13 i0 i1 i2 i3 l3 c3 h K from by kernel_rfl) ▸ hL)

def L14 (i0 : Int) (i1 : Int) (h : Hp) (K : Value → Hp → Prop) : Prop :=
 LoopI (σ := (Option Addr × Nat × Nat) × (Int) × Unit) (fun st1 h2 J3 =>
 bsel (decide (st1.2.1 < i1)) (onO (fillL (zerosN (zeroOf tc.P 5) (1 * 1)).toList [(0, 1, (.int .u8 i0))]) fun g4 =>
 apnd 5 1 1 (zeroOf tc.P 5) (.slice st1.1.1 st1.1.2.1 st1.1.2.2) (.slice (some (Addr.mk h2.size 0 none)) 1 1) (h2.push (.cells g4.toArray 5)) fun x5 h6 =>
 onSl x5 fun p7 l8 c9 =>
 J3 ((p7, l8, c9), (IntKind.i64.wrap (st1.2.1 + 1)), ()) h6)
 (K (.slice st1.1.1 st1.1.2.1 st1.1.2.2) h2))
 ((none, 0, 0), 0, ()) h
theorem L14_run (i0 : Int) (i1 : Int) (h : Hp) (K : Value → Hp → Prop) (hL : L14 i0 i1 h K) : Run tc.P 14 #[(.int .u8 i0), (.int .i64 i1)] h K :=
  run_of_cwp tc_good Try.func14 { loops := [(3, [(5, .ts), (6, .ti .i64)])], cuts := [], draws := [] } _ _ _ ((show cwpF tc { loops := [(3, [(5, .ts), (6, .ti .i64)])], cuts := [], draws := [] } Try.f14 #[(.int .u8 i0), (.int .i64 i1)] h K = L14 i0 i1 h K from by kernel_rfl) ▸ hL)

def L15 (i0 : Option Addr) (i1 : Int) (i2 : Int) (h : Hp) (K : Value → Hp → Prop) : Prop :=
 Run tc.P 38 #[(.pointer i0), (.int .i64 i1), (.int .i64 i2)] h fun x1 h2 =>
 onTup 0 x1 fun x3 =>
 onI .i64 x3 fun n4 =>
 onTup 1 x1 fun x5 =>
 onI .i64 x5 fun n6 =>
 bsel (!decide (n6 = 0)) (K (.tuple #[(.slice none 0 0), (.int .i64 n6)]) h2)
 (onPtr (.pointer i0) fun a7 =>
 ld1 h2 (a7.add 0) fun x8 =>
 invk tc x8 "Read" #[(.int .i64 n4)] h2 fun x9 h10 =>
 onTup 0 x9 fun x11 =>
 onSl x11 fun p12 l13 c14 =>
 onTup 1 x9 fun x15 =>
 onI .i64 x15 fun n16 =>
 K (.tuple #[(.slice p12 l13 c14), (.int .i64 n16)]) h10)
theorem L15_run (i0 : Option Addr) (i1 : Int) (i2 : Int) (h : Hp) (K : Value → Hp → Prop) (hL : L15 i0 i1 i2 h K) : Run tc.P 15 #[(.pointer i0), (.int .i64 i1), (.int .i64 i2)] h K :=
  run_of_cwp tc_good Try.func15 { loops := [], cuts := [], draws := [] } _ _ _ ((show cwpF tc { loops := [], cuts := [], draws := [] } Try.f15 #[(.pointer i0), (.int .i64 i1), (.int .i64 i2)] h K = L15 i0 i1 i2 h K from by kernel_rfl) ▸ hL)

def L16 (i0 : Option Addr) (l0 c0 : Nat) (i1 : Option Addr) (l1 c1 : Nat) (h : Hp) (K : Value → Hp → Prop) : Prop :=
 b2s h (.slice i0 l0 c0) fun s1 =>
 b2s h (.slice i1 l1 c1) fun s2 =>
 K (.bool (s1.toList == s2.toList)) h
theorem L16_run (i0 : Option Addr) (l0 c0 : Nat) (i1 : Option Addr) (l1 c1 : Nat) (h : Hp) (K : Value → Hp → Prop) (hL : L16 i0 l0 c0 i1 l1 c1 h K) : Run tc.P 16 #[(.slice i0 l0 c0), (.slice i1 l1 c1)] h K :=
  run_of_cwp tc_good Try.func16 { loops := [], cuts := [], draws := [] } _ _ _ ((show cwpF tc { loops := [], cuts := [], draws := [] } Try.f16 #[(.slice i0 l0 c0), (.slice i1 l1 c1)] h K = L16 i0 l0 c0 i1 l1 c1 h K from by kernel_rfl) ▸ hL)

def L17 (i0 : Option Addr) (i1 : Option Addr) (l1 c1 : Nat) (i2 : Int) (i3 : Int) (h : Hp) (K : Value → Hp → Prop) : Prop :=
 LoopI (σ := (Int) × Unit) (fun st1 h2 J3 =>
 bsel (decide (st1.1 ≤ 1025)) (Run tc.P 36 #[(.pointer i0), (.int .i64 (Int.tmod (IntKind.i64.wrap ((IntKind.i64.wrap (Int.tmod (IntKind.u64.wrap ((IntKind.u64.wrap ((IntKind.u64.wrap i2) * 32)) + (IntKind.u64.wrap i3))) 1024)) + st1.1)) 1024))] h2 fun x4 h5 =>
 onTup 0 x4 fun x6 =>
 onSl x6 fun p7 l8 c9 =>
 onTup 1 x4 fun x10 =>
 onI .i64 x10 fun n11 =>
 bsel (!decide (n11 = 0)) (K (.bool false) h5)
 (((0 : Int) ≤ (Int.tmod (IntKind.i64.wrap ((IntKind.i64.wrap (Int.tmod (IntKind.u64.wrap ((IntKind.u64.wrap ((IntKind.u64.wrap i2) * 32)) + (IntKind.u64.wrap i3))) 1024)) + st1.1)) 1024) ∧ (Int.tmod (IntKind.i64.wrap ((IntKind.i64.wrap (Int.tmod (IntKind.u64.wrap ((IntKind.u64.wrap ((IntKind.u64.wrap i2) * 32)) + (IntKind.u64.wrap i3))) 1024)) + st1.1)) 1024) < ((l1 : Nat) : Int)) ∧
 onO i1 fun a12 =>
 ldS h5 (a12.add (Int.toNat (Int.tmod (IntKind.i64.wrap ((IntKind.i64.wrap (Int.tmod (IntKind.u64.wrap ((IntKind.u64.wrap ((IntKind.u64.wrap i2) * 32)) + (IntKind.u64.wrap i3))) 1024)) + st1.1)) 1024) * 1)) fun p13 l14 c15 =>
 Run tc.P 16 #[(.slice p7 l8 c9), (.slice p13 l14 c15)] h5 fun x16 h17 =>
 onB x16 fun b18 =>
 bsel (!b18) (K (.bool false) h17)
 (J3 ((IntKind.i64.wrap (st1.1 + 1)), ()) h17)))
 (K (.bool true) h2))
 (1023, ()) h
theorem L17_run (i0 : Option Addr) (i1 : Option Addr) (l1 c1 : Nat) (i2 : Int) (i3 : Int) (h : Hp) (K : Value → Hp → Prop) (hL : L17 i0 i1 l1 c1 i2 i3 h K) : Run tc.P 17 #[(.pointer i0), (.slice i1 l1 c1), (.int .i64 i2), (.int .i64 i3)] h K :=
  run_of_cwp tc_good Try.func17 { loops := [(3, [(10, .ti .i64)])], cuts := [], draws := [] } _ _ _ ((show cwpF tc { loops := [(3, [(10, .ti .i64)])], cuts := [], draws := [] } Try.f17 #[(.pointer i0), (.slice i1 l1 c1), (.int .i64 i2), (.int .i64 i3)] h K = L17 i0 i1 l1 c1 i2 i3 h K from by kernel_rfl) ▸ hL)

def L18  (h : Hp) (K : Value → Hp → Prop) : Prop :=
 K (.pointer (some (Addr.mk h.size 0 none))) (h.push (.cells ((zeroOf tc.P 89).toList.toArray) 89))
theorem L18_run  (h : Hp) (K : Value → Hp → Prop) (hL : L18  h K) : Run tc.P 18 #[] h K :=
  run_of_cwp tc_good Try.func18 { loops := [], cuts := [], draws := [] } _ _ _ ((show cwpF tc { loops := [], cuts := [], draws := [] } Try.f18 #[] h K = L18  h K from by kernel_rfl) ▸ hL)

def L19 (i0 : Option Addr) (i1 : Int) (h : Hp) (K : Value → Hp → Prop) : Prop :=
 onPtr (.pointer i0) fun a1 =>
 ldP h (a1.add 1) fun p2 =>
 Run tc.P 39 #[(.pointer p2), (.int .i64 i1)] h fun x3 h4 =>
 onTup 0 x3 fun x5 =>
 onAgg x5 fun g6 =>
 onTup 1 x3 fun x7 =>
 onB x7 fun b8 =>
 szIs g6.size 3 (
 st (h4.push (.cells (zeroOf tc.P 49) 49)) (Addr.mk h4.size 0 none) g6 fun h9 =>
 bsel (!b8) (K (.tuple #[(.int .i64 0), (.int .i64 100)]) h9)
 (ldI h9 ((Addr.mk h4.size 0 none).add 1) .i64 fun n10 =>
 K (.tuple #[(.int .i64 n10), (.int .i64 0)]) h9))
theorem L19_run (i0 : Option Addr) (i1 : Int) (h : Hp) (K : Value → Hp → Prop) (hL : L19 i0 i1 h K) : Run tc.P 19 #[(.pointer i0), (.int .i64 i1)] h K :=
  run_of_cwp tc_good Try.func19 { loops := [], cuts := [], draws := [] } _ _ _ ((show cwpF tc { loops := [], cuts := [], draws := [] } Try.f19 #[(.pointer i0), (.int .i64 i1)] h K = L19 i0 i1 h K from by kernel_rfl) ▸ hL)

def L20 (i0 : Option Addr) (h : Hp) (K : Value → Hp → Prop) : Prop :=
 onPtr (.pointer i0) fun a1 =>
 ldS h (a1.add 131072) fun p2 l3 c4 =>
 LoopI (σ := (Option Addr × Nat × Nat) × (Int) × Unit) (fun st5 h6 J7 =>
 bsel (decide (st5.2.1 < ((l3 : Nat) : Int))) (((0 : Int) ≤ st5.2.1 ∧ st5.2.1 < ((l3 : Nat) : Int)) ∧
 onO p2 fun a8 =>
 ldR h6 (a8.add (Int.toNat st5.2.1 * 129)) 129 fun g9 =>
 szIs g9.size 129 (
 st (h6.push (.cells (zeroOf tc.P 93) 93)) (Addr.mk h6.size 0 none) g9 fun h10 =>
 ldI h10 ((Addr.mk h6.size 0 none).add 0) .i64 fun n11 =>
 onO (fillL (zerosN (zeroOf tc.P 3) (1 * 1)).toList [(0, 1, (.int .i64 n11))]) fun g12 =>
 apnd 3 1 8 (zeroOf tc.P 3) (.slice st5.1.1 st5.1.2.1 st5.1.2.2) (.slice (some (Addr.mk h10.size 0 none)) 1 1) (h10.push (.cells g12.toArray 3)) fun x13 h14 =>
 onSl x13 fun p15 l16 c17 =>
 J7 ((p15, l16, c17), (IntKind.i64.wrap (st5.2.1 + 1)), ()) h14))
 (K (.slice st5.1.1 st5.1.2.1 st5.1.2.2) h6))
 ((none, 0, 0), 0, ()) h
theorem L20_run (i0 : Option Addr) (h : Hp) (K : Value → Hp → Prop) (hL : L20 i0 h K) : Run tc.P 20 #[(.pointer i0)] h K :=
  run_of_cwp tc_good Try.func20 { loops := [(3, [(3, .ts), (11, .ti .i64)])], cuts := [], draws := [] } _ _ _ ((show cwpF tc { loops := [(3, [(3, .ts), (11, .ti .i64)])], cuts := [], draws := [] } Try.f20 #[(.pointer i0)] h K = L20 i0 h K from by kernel_rfl) ▸ hL)

def L21 (i0 : Option Addr) (i1 : Int) (h : Hp) (K : Value → Hp → Prop) : Prop :=
 bsel (decide (i1 < 0)) (K (.int .i64 1) h)
 (onPtr (.pointer i0) fun a1 =>
 ldB h (a1.add 131075) fun b2 =>
 bsel b2 (K (.int .i64 42) h)
 (onPtr (.pointer i0) fun a3 =>
 st h (a3.add 131073) #[(.bool true)] fun h4 =>
 onPtr (.pointer i0) fun a5 =>
 st h4 (a5.add 131074) #[(.int .i64 i1)] fun h6 =>
 K (.int .i64 0) h6))
theorem L21_run (i0 : Option Addr) (i1 : Int) (h : Hp) (K : Value → Hp → Prop) (hL : L21 i0 i1 h K) : Run tc.P 21 #[(.pointer i0), (.int .i64 i1)] h K :=
  run_of_cwp tc_good Try.func21 { loops := [], cuts := [], draws := [] } _ _ _ ((show cwpF tc { loops := [], cuts := [], draws := [] } Try.f21 #[(.pointer i0), (.int .i64 i1)] h K = L21 i0 i1 h K from by kernel_rfl) ▸ hL)

def L22 (i0 : Option Addr) (h : Hp) (K : Value → Hp → Prop) : Prop :=
 onPtr (.pointer i0) fun a1 =>
 ld1 h (a1.add 0) fun x2 =>
 invk tc x2 "Flush" #[] h fun x3 h4 =>
 onI .i64 x3 fun n5 =>
 K (.int .i64 n5) h4
theorem L22_run (i0 : Option Addr) (h : Hp) (K : Value → Hp → Prop) (hL : L22 i0 h K) : Run tc.P 22 #[(.pointer i0)] h K :=
  run_of_cwp tc_good Try.func22 { loops := [], cuts := [], draws := [] } _ _ _ ((show cwpF tc { loops := [], cuts := [], draws := [] } Try.f22 #[(.pointer i0)] h K = L22 i0 h K from by kernel_rfl) ▸ hL)

def L23 (i0 : Option Addr) (h : Hp) (K : Value → Hp → Prop) : Prop :=
 onPtr (.pointer i0) fun a1 =>
 ldB h (a1.add 131075) fun b2 =>
 K (.bool b2) h
theorem L23_run (i0 : Option Addr) (h : Hp) (K : Value → Hp → Prop) (hL : L23 i0 h K) : Run tc.P 23 #[(.pointer i0)] h K :=
  run_of_cwp tc_good Try.func23 { loops := [], cuts := [], draws := [] } _ _ _ ((show cwpF tc { loops := [], cuts := [], draws := [] } Try.f23 #[(.pointer i0)] h K = L23 i0 h K from by kernel_rfl) ▸ hL)

def L24 (i0 : Option Addr) (l0 c0 : Nat) (i1 : Int) (h : Hp) (K : Value → Hp → Prop) : Prop :=
 LoopI (σ := (Int) × Unit) (fun st1 h2 J3 =>
 bsel (decide (st1.1 < ((l0 : Nat) : Int))) (((0 : Int) ≤ st1.1 ∧ st1.1 < ((l0 : Nat) : Int)) ∧
 onO i0 fun a4 =>
 ldI h2 (a4.add (Int.toNat st1.1 * 1)) .i64 fun n5 =>
 bsel (decide ((IntKind.i64.wrap (Int.tmod (IntKind.u64.wrap n5) 32)) = i1)) (K (.bool true) h2)
 (J3 ((IntKind.i64.wrap (st1.1 + 1)), ()) h2))
 (K (.bool false) h2))
 (0, ()) h
theorem L24_run (i0 : Option Addr) (l0 c0 : Nat) (i1 : Int) (h : Hp) (K : Value → Hp → Prop) (hL : L24 i0 l0 c0 i1 h K) : Run tc.P 24 #[(.slice i0 l0 c0), (.int .i64 i1)] h K :=
  run_of_cwp tc_good Try.func24 { loops := [(2, [(5, .ti .i64)])], cuts := [], draws := [] } _ _ _ ((show cwpF tc { loops := [(2, [(5, .ti .i64)])], cuts := [], draws := [] } Try.f24 #[(.slice i0 l0 c0), (.int .i64 i1)] h K = L24 i0 l0 c0 i1 h K from by kernel_rfl) ▸ hL)

def L25 (i0 : Option Addr) (i1 : Int) (h : Hp) (K : Value → Hp → Prop) : Prop :=
 onPtr (.pointer i0) fun a1 =>
 ldP h (a1.add 1) fun p2 =>
 Run tc.P 39 #[(.pointer p2), (.int .i64 i1)] h fun x3 h4 =>
 onTup 0 x3 fun x5 =>
 onAgg x5 fun g6 =>
 onTup 1 x3 fun x7 =>
 onB x7 fun b8 =>
 szIs g6.size 3 (
 st (h4.push (.cells (zeroOf tc.P 49) 49)) (Addr.mk h4.size 0 none) g6 fun h9 =>
 bsel (!b8) (K (.int .i64 100) h9)
 (ldI h9 ((Addr.mk h4.size 0 none).add 2) .i64 fun n10 =>
 st h9 ((Addr.mk h4.size 0 none).add 2) #[(.int .i64 (IntKind.i64.wrap (n10 + 1)))] fun h11 =>
 onPtr (.pointer i0) fun a12 =>
 ldP h11 (a12.add 1) fun p13 =>
 ldR h11 (Addr.mk h4.size 0 none) 3 fun g14 =>
 Run tc.P 34 #[(.pointer p13), (.int .i64 i1), (.agg g14)] h11 fun x15 h16 =>
 onB x15 fun b17 =>
 K (.int .i64 0) h16))
theorem L25_run (i0 : Option Addr) (i1 : Int) (h : Hp) (K : Value → Hp → Prop) (hL : L25 i0 i1 h K) : Run tc.P 25 #[(.pointer i0), (.int .i64 i1)] h K :=
  run_of_cwp tc_good Try.func25 { loops := [], cuts := [], draws := [(5, [0, 1, 2, 4, 3, 5, 6], [])] } _ _ _ ((show cwpF tc { loops := [], cuts := [], draws := [(5, [0, 1, 2, 4, 3, 5, 6], [])] } Try.f25 #[(.pointer i0), (.int .i64 i1)] h K = L25 i0 i1 h K from by kernel_rfl) ▸ hL)

def L26 (i0 : Option Addr) (i1 : Option Addr) (l1 c1 : Nat) (h : Hp) (K : Value → Hp → Prop) : Prop :=
 Run tc.P 40 #[(.pointer i0), (.func (.func 41) #[] #[(.pointer (some (Addr.mk h.size 0 none)))])] (h.push (.cells #[(.slice i1 l1 c1)] 52)) fun x1 h2 =>
 onI .i64 x1 fun n3 =>
 onPtr (.pointer i0) fun a4 =>
 st h2 (a4.add 131073) #[(.bool false)] fun h5 =>
 onPtr (.pointer i0) fun a6 =>
 st h5 (a6.add 131075) #[(.bool false)] fun h7 =>
 onPtr (.pointer i0) fun a8 =>
 st h7 (a8.add 131074) #[(.int .i64 0)] fun h9 =>
 K (.int .i64 n3) h9
theorem L26_run (i0 : Option Addr) (i1 : Option Addr) (l1 c1 : Nat) (h : Hp) (K : Value → Hp → Prop) (hL : L26 i0 i1 l1 c1 h K) : Run tc.P 26 #[(.pointer i0), (.slice i1 l1 c1)] h K :=
  run_of_cwp tc_good Try.func26 { loops := [], cuts := [], draws := [] } _ _ _ ((show cwpF tc { loops := [], cuts := [], draws := [] } Try.f26 #[(.pointer i0), (.slice i1 l1 c1)] h K = L26 i0 i1 l1 c1 h K from by kernel_rfl) ▸ hL)

def L27 (i0 : Option Addr) (l0 c0 : Nat) (h : Hp) (K : Value → Hp → Prop) : Prop :=
 apnd 4 1 1 (zeroOf tc.P 4) (.slice none 0 0) (.slice i0 l0 c0) h fun x1 h2 =>
 K x1 h2
theorem L27_run (i0 : Option Addr) (l0 c0 : Nat) (h : Hp) (K : Value → Hp → Prop) (hL : L27 i0 l0 c0 h K) : Run tc.P 27 #[(.slice i0 l0 c0)] h K :=
  run_of_cwp tc_good Try.func27 { loops := [], cuts := [], draws := [] } _ _ _ ((show cwpF tc { loops := [], cuts := [], draws := [] } Try.f27 #[(.slice i0 l0 c0)] h K = L27 i0 l0 c0 h K from by kernel_rfl) ▸ hL)

def L28  (h : Hp) (K : Value → Hp → Prop) : Prop :=
 onO (fillL (zeroOf tc.P 98).toList [(2, 1, (.int .i64 (-1)))]) fun g1 =>
 K (.pointer (some (Addr.mk h.size 0 none))) (h.push (.cells g1.toArray 98))
theorem L28_run  (h : Hp) (K : Value → Hp → Prop) (hL : L28  h K) : Run tc.P 28 #[] h K :=
  run_of_cwp tc_good Try.func28 { loops := [], cuts := [], draws := [] } _ _ _ ((show cwpF tc { loops := [], cuts := [], draws := [] } Try.f28 #[] h K = L28  h K from by kernel_rfl) ▸ hL)

def L29 (i0 : Option Addr) (h : Hp) (K : Value → Hp → Prop) : Prop :=
 (i0 = none ∨ (none : Option Addr) = none) ∧ (bsel (i0.isNone && (none : Option Addr).isNone) (K (.pointer none) h)
 (onO (fillL (zeroOf tc.P 100).toList [(1, 1, (.pointer i0))]) fun g1 =>
 K (.pointer (some (Addr.mk h.size 0 none))) (h.push (.cells g1.toArray 100))))
theorem L29_run (i0 : Option Addr) (h : Hp) (K : Value → Hp → Prop) (hL : L29 i0 h K) : Run tc.P 29 #[(.pointer i0)] h K :=
  run_of_cwp tc_good Try.func29 { loops := [], cuts := [], draws := [] } _ _ _ ((show cwpF tc { loops := [], cuts := [], draws := [] } Try.f29 #[(.pointer i0)] h K = L29 i0 h K from by kernel_rfl) ▸ hL)

def L30 (i0 : Option Addr) (i1 : Option Addr) (i2 : Option Addr) (i3 : Array Value) (h : Hp) (K : Value → Hp → Prop) : Prop :=
 ldI (h.push (.cells i3 67)) ((Addr.mk h.size 0 none).add 0) .i64 fun n1 =>
 bsel (decide (n1 = 1)) (bsel (decide (n1 = 1)) (ldR (h.push (.cells i3 67)) (Addr.mk h.size 0 none) 8 fun g2 =>
 Run tc.P 42 #[(.pointer i0), (.pointer i2), (.agg g2)] (h.push (.cells i3 67)) fun x3 h4 =>
 onB x3 fun b5 =>
 K (.bool b5) h4)
 (bsel (decide (n1 = 5)) (ldI (h.push (.cells i3 67)) ((Addr.mk h.size 0 none).add 2) .i64 fun n6 =>
 ldI (h.push (.cells i3 67)) ((Addr.mk h.size 0 none).add 3) .i64 fun n7 =>
 Run tc.P 15 #[(.pointer i0), (.int .i64 n6), (.int .i64 n7)] (h.push (.cells i3 67)) fun x8 h9 =>
 onTup 0 x8 fun x10 =>
 onSl x10 fun p11 l12 c13 =>
 onTup 1 x8 fun x14 =>
 onI .i64 x14 fun n15 =>
 ldI h9 ((Addr.mk h.size 0 none).add 2) .i64 fun n16 =>
 ldI h9 ((Addr.mk h.size 0 none).add 3) .i64 fun n17 =>
 Run tc.P 43 #[(.pointer i2), (.int .i64 n16), (.int .i64 n17)] h9 fun x18 h19 =>
 onTup 0 x18 fun x20 =>
 onSl x20 fun p21 l22 c23 =>
 onTup 1 x18 fun x24 =>
 onI .i64 x24 fun n25 =>
 Run tc.P 16 #[(.slice p11 l12 c13), (.slice p21 l22 c23)] h19 fun x26 h27 =>
 onB x26 fun b28 =>
 bsel b28 (K (.bool (decide (n15 = n25))) h27)
 (K (.bool false) h27))
 (bsel (decide (n1 = 6)) (ldR (h.push (.cells i3 67)) (Addr.mk h.size 0 none) 8 fun g29 =>
 Run tc.P 44 #[(.agg g29)] (h.push (.cells i3 67)) fun x30 h31 =>
 onSl x30 fun p32 l33 c34 =>
 ldI h31 ((Addr.mk h.size 0 none).add 2) .i64 fun n35 =>
 ldI h31 ((Addr.mk h.size 0 none).add 3) .i64 fun n36 =>
 Run tc.P 13 #[(.pointer i0), (.int .i64 n35), (.int .i64 n36), (.slice p32 l33 c34)] h31 fun x37 h38 =>
 onI .i64 x37 fun n39 =>
 ldR h38 (Addr.mk h.size 0 none) 8 fun g40 =>
 Run tc.P 44 #[(.agg g40)] h38 fun x41 h42 =>
 onSl x41 fun p43 l44 c45 =>
 Run tc.P 16 #[(.slice p32 l33 c34), (.slice p43 l44 c45)] h42 fun x46 h47 =>
 onB x46 fun b48 =>
 bsel (!b48) (K (.bool false) h47)
 (LoopI (σ := (Int) × Unit) (fun st49 h50 J51 =>
 bsel (decide (st49.1 < ((l33 : Nat) : Int))) (((0 : Int) ≤ st49.1 ∧ st49.1 < ((l33 : Nat) : Int)) ∧
 onO p32 fun a52 =>
 ldI h50 (a52.add (Int.toNat st49.1 * 1)) .u8 fun n53 =>
 ((0 : Int) ≤ st49.1 ∧ st49.1 < ((l33 : Nat) : Int)) ∧
 onO p32 fun a54 =>
 st h50 (a54.add (Int.toNat st49.1 * 1)) #[(.int .u8 (xorN .u8 n53))] fun h55 =>
 J51 ((IntKind.i64.wrap (st49.1 + 1)), ()) h55)
 (ldI h50 ((Addr.mk h.size 0 none).add 2) .i64 fun n56 =>
 ldI h50 ((Addr.mk h.size 0 none).add 3) .i64 fun n57 =>
 ldR h50 (Addr.mk h.size 0 none) 8 fun g58 =>
 Run tc.P 44 #[(.agg g58)] h50 fun x59 h60 =>
 onSl x59 fun p61 l62 c63 =>
 Keep h50 h60 ∧
 Run tc.P 45 #[(.pointer i2), (.int .i64 n56), (.int .i64 n57), (.slice p61 l62 c63)] h60 fun x64 h65 =>
 onI .i64 x64 fun n66 =>
 K (.bool (decide (n39 = n66))) h65))
 (0, ()) h47))
 (bsel (decide (n1 = 7)) (Run tc.P 22 #[(.pointer i0)] (h.push (.cells i3 67)) fun x67 h68 =>
 onI .i64 x67 fun n69 =>
 Run tc.P 46 #[(.pointer i2)] h68 fun x70 h71 =>
 onI .i64 x70 fun n72 =>
 K (.bool (decide (n69 = n72))) h71)
 (bsel (decide (n1 = 9)) (ldI (h.push (.cells i3 67)) ((Addr.mk h.size 0 none).add 2) .i64 fun n73 =>
 Run tc.P 21 #[(.pointer i1), (.int .i64 n73)] (h.push (.cells i3 67)) fun x74 h75 =>
 onI .i64 x74 fun n76 =>
 onPtr (.pointer i2) fun a77 =>
 ldP h75 (a77.add 1) fun p78 =>
 ldI h75 ((Addr.mk h.size 0 none).add 2) .i64 fun n79 =>
 Run tc.P 47 #[(.pointer p78), (.int .i64 n79)] h75 fun x80 h81 =>
 onI .i64 x80 fun n82 =>
 K (.bool (decide (n76 = n82))) h81)
 (bsel (decide (n1 = 10)) (ldS (h.push (.cells i3 67)) ((Addr.mk h.size 0 none).add 7) fun p83 l84 c85 =>
 Run tc.P 27 #[(.slice p83 l84 c85)] (h.push (.cells i3 67)) fun x86 h87 =>
 onSl x86 fun p88 l89 c90 =>
 Run tc.P 26 #[(.pointer i1), (.slice p88 l89 c90)] h87 fun x91 h92 =>
 onI .i64 x91 fun n93 =>
 onPtr (.pointer i2) fun a94 =>
 ldP h92 (a94.add 1) fun p95 =>
 ldS h92 ((Addr.mk h.size 0 none).add 7) fun p96 l97 c98 =>
 Run tc.P 48 #[(.pointer p95), (.slice p96 l97 c98)] h92 fun x99 h100 =>
 onI .i64 x99 fun n101 =>
 K (.bool (decide (n93 = n101))) h100)
 (bsel (decide (n1 = 11)) (ldI (h.push (.cells i3 67)) ((Addr.mk h.size 0 none).add 3) .i64 fun n102 =>
 Run tc.P 49 #[(.pointer i1), (.int .i64 n102)] (h.push (.cells i3 67)) fun x103 h104 =>
 onTup 0 x103 fun x105 =>
 onSl x105 fun p106 l107 c108 =>
 onTup 1 x103 fun x109 =>
 onI .i64 x109 fun n110 =>
 onPtr (.pointer i2) fun a111 =>
 ldP h104 (a111.add 1) fun p112 =>
 ldI h104 ((Addr.mk h.size 0 none).add 3) .i64 fun n113 =>
 Run tc.P 50 #[(.pointer p112), (.int .i64 n113)] h104 fun x114 h115 =>
 onTup 0 x114 fun x116 =>
 onSl x116 fun p117 l118 c119 =>
 onTup 1 x114 fun x120 =>
 onI .i64 x120 fun n121 =>
 Run tc.P 16 #[(.slice p106 l107 c108), (.slice p117 l118 c119)] h115 fun x122 h123 =>
 onB x122 fun b124 =>
 bsel b124 (K (.bool (decide (n110 = n121))) h123)
 (K (.bool false) h123))
 (bsel (decide (n1 = 13)) (Run tc.P 51 #[(.pointer i1)] (h.push (.cells i3 67)) fun x125 h126 =>
 onI .i64 x125 fun n127 =>
 onPtr (.pointer i2) fun a128 =>
 ldP h126 (a128.add 1) fun p129 =>
 Run tc.P 52 #[(.pointer p129)] h126 fun x130 h131 =>
 onI .i64 x130 fun n132 =>
 K (.bool (decide (n127 = n132))) h131)
 (K (.bool true) (h.push (.cells i3 67)))))))))))
 (bsel (decide (n1 = 2)) (bsel (decide (n1 = 2)) (ldR (h.push (.cells i3 67)) (Addr.mk h.size 0 none) 8 fun g133 =>
 Run tc.P 42 #[(.pointer i0), (.pointer i2), (.agg g133)] (h.push (.cells i3 67)) fun x134 h135 =>
 onB x134 fun b136 =>
 K (.bool b136) h135)
 (bsel (decide (n1 = 5)) (ldI (h.push (.cells i3 67)) ((Addr.mk h.size 0 none).add 2) .i64 fun n137 =>
 ldI (h.push (.cells i3 67)) ((Addr.mk h.size 0 none).add 3) .i64 fun n138 =>
 Run tc.P 15 #[(.pointer i0), (.int .i64 n137), (.int .i64 n138)] (h.push (.cells i3 67)) fun x139 h140 =>
 onTup 0 x139 fun x141 =>
 onSl x141 fun p142 l143 c144 =>
 onTup 1 x139 fun x145 =>
 onI .i64 x145 fun n146 =>
 ldI h140 ((Addr.mk h.size 0 none).add 2) .i64 fun n147 =>
 ldI h140 ((Addr.mk h.size 0 none).add 3) .i64 fun n148 =>
 Run tc.P 43 #[(.pointer i2), (.int .i64 n147), (.int .i64 n148)] h140 fun x149 h150 =>
 onTup 0 x149 fun x151 =>
 onSl x151 fun p152 l153 c154 =>
 onTup 1 x149 fun x155 =>
 onI .i64 x155 fun n156 =>
 Run tc.P 16 #[(.slice p142 l143 c144), (.slice p152 l153 c154)] h150 fun x157 h158 =>
 onB x157 fun b159 =>
 bsel b159 (K (.bool (decide (n146 = n156))) h158)
 (K (.bool false) h158))
 (bsel (decide (n1 = 6)) (ldR (h.push (.cells i3 67)) (Addr.mk h.size 0 none) 8 fun g160 =>
 Run tc.P 44 #[(.agg g160)] (h.push (.cells i3 67)) fun x161 h162 =>
 onSl x161 fun p163 l164 c165 =>
 ldI h162 ((Addr.mk h.size 0 none).add 2) .i64 fun n166 =>
 ldI h162 ((Addr.mk h.size 0 none).add 3) .i64 fun n167 =>
 Run tc.P 13 #[(.pointer i0), (.int .i64 n166), (.int .i64 n167), (.slice p163 l164 c165)] h162 fun x168 h169 =>
 onI .i64 x168 fun n170 =>
 ldR h169 (Addr.mk h.size 0 none) 8 fun g171 =>
 Run tc.P 44 #[(.agg g171)] h169 fun x172 h173 =>
 onSl x172 fun p174 l175 c176 =>
 Run tc.P 16 #[(.slice p163 l164 c165), (.slice p174 l175 c176)] h173 fun x177 h178 =>
 onB x177 fun b179 =>
 bsel (!b179) (K (.bool false) h178)
 (LoopI (σ := (Int) × Unit) (fun st180 h181 J182 =>
 bsel (decide (st180.1 < ((l164 : Nat) : Int))) (((0 : Int) ≤ st180.1 ∧ st180.1 < ((l164 : Nat) : Int)) ∧
 onO p163 fun a183 =>
 ldI h181 (a183.add (Int.toNat st180.1 * 1)) .u8 fun n184 =>
 ((0 : Int) ≤ st180.1 ∧ st180.1 < ((l164 : Nat) : Int)) ∧
 onO p163 fun a185 =>
 st h181 (a185.add (Int.toNat st180.1 * 1)) #[(.int .u8 (xorN .u8 n184))] fun h186 =>
 J182 ((IntKind.i64.wrap (st180.1 + 1)), ()) h186)
 (ldI h181 ((Addr.mk h.size 0 none).add 2) .i64 fun n187 =>
 ldI h181 ((Addr.mk h.size 0 none).add 3) .i64 fun n188 =>
 ldR h181 (Addr.mk h.size 0 none) 8 fun g189 =>
 Run tc.P 44 #[(.agg g189)] h181 fun x190 h191 =>
 onSl x190 fun p192 l193 c194 =>
 Keep h181 h191 ∧
 Run tc.P 45 #[(.pointer i2), (.int .i64 n187), (.int .i64 n188), (.slice p192 l193 c194)] h191 fun x195 h196 =>
 onI .i64 x195 fun n197 =>
 K (.bool (decide (n170 = n197))) h196))
 (0, ()) h178))
 (bsel (decide (n1 = 7)) (Run tc.P 22 #[(.pointer i0)] (h.push (.cells i3 67)) fun x198 h199 =>
 onI .i64 x198 fun n200 =>
 Run tc.P 46 #[(.pointer i2)] h199 fun x201 h202 =>
 onI .i64 x201 fun n203 =>
 K (.bool (decide (n200 = n203))) h202)
 (bsel (decide (n1 = 9)) (ldI (h.push (.cells i3 67)) ((Addr.mk h.size 0 none).add 2) .i64 fun n204 =>
 Run tc.P 21 #[(.pointer i1), (.int .i64 n204)] (h.push (.cells i3 67)) fun x205 h206 =>
 onI .i64 x205 fun n207 =>
 onPtr (.pointer i2) fun a208 =>
 ldP h206 (a208.add 1) fun p209 =>
 ldI h206 ((Addr.mk h.size 0 none).add 2) .i64 fun n210 =>
 Run tc.P 47 #[(.pointer p209), (.int .i64 n210)] h206 fun x211 h212 =>
 onI .i64 x211 fun n213 =>
 K (.bool (decide (n207 = n213))) h212)
 (bsel (decide (n1 = 10)) (ldS (h.push (.cells i3 67)) ((Addr.mk h.size 0 none).add 7) fun p214 l215 c216 =>
 Run tc.P 27 #[(.slice p214 l215 c216)] (h.push (.cells i3 67)) fun x217 h218 =>
 onSl x217 fun p219 l220 c221 =>
 Run tc.P 26 #[(.pointer i1), (.slice p219 l220 c221)] h218 fun x222 h223 =>
 onI .i64 x222 fun n224 =>
 onPtr (.pointer i2) fun a225 =>
 ldP h223 (a225.add 1) fun p226 =>
 ldS h223 ((Addr.mk h.size 0 none).add 7) fun p227 l228 c229 =>
 Run tc.P 48 #[(.pointer p226), (.slice p227 l228 c229)] h223 fun x230 h231 =>
 onI .i64 x230 fun n232 =>
 K (.bool (decide (n224 = n232))) h231)
 (bsel (decide (n1 = 11)) (ldI (h.push (.cells i3 67)) ((Addr.mk h.size 0 none).add 3) .i64 fun n233 =>
 Run tc.P 49 #[(.pointer i1), (.int .i64 n233)] (h.push (.cells i3 67)) fun x234 h235 =>
 onTup 0 x234 fun x236 =>
 onSl x236 fun p237 l238 c239 =>
 onTup 1 x234 fun x240 =>
 onI .i64 x240 fun n241 =>
 onPtr (.pointer i2) fun a242 =>
 ldP h235 (a242.add 1) fun p243 =>
 ldI h235 ((Addr.mk h.size 0 none).add 3) .i64 fun n244 =>
 Run tc.P 50 #[(.pointer p243), (.int .i64 n244)] h235 fun x245 h246 =>
 onTup 0 x245 fun x247 =>
 onSl x247 fun p248 l249 c250 =>
 onTup 1 x245 fun x251 =>
 onI .i64 x251 fun n252 =>
 Run tc.P 16 #[(.slice p237 l238 c239), (.slice p248 l249 c250)] h246 fun x253 h254 =>
 onB x253 fun b255 =>
 bsel b255 (K (.bool (decide (n241 = n252))) h254)
 (K (.bool false) h254))
 (bsel (decide (n1 = 13)) (Run tc.P 51 #[(.pointer i1)] (h.push (.cells i3 67)) fun x256 h257 =>
 onI .i64 x256 fun n258 =>
 onPtr (.pointer i2) fun a259 =>
 ldP h257 (a259.add 1) fun p260 =>
 Run tc.P 52 #[(.pointer p260)] h257 fun x261 h262 =>
 onI .i64 x261 fun n263 =>
 K (.bool (decide (n258 = n263))) h262)
 (K (.bool true) (h.push (.cells i3 67)))))))))))
 (bsel (decide (n1 = 3)) (bsel (decide (n1 = 3)) (ldR (h.push (.cells i3 67)) (Addr.mk h.size 0 none) 8 fun g264 =>
 Run tc.P 42 #[(.pointer i0), (.pointer i2), (.agg g264)] (h.push (.cells i3 67)) fun x265 h266 =>
 onB x265 fun b267 =>
 K (.bool b267) h266)
 (bsel (decide (n1 = 5)) (ldI (h.push (.cells i3 67)) ((Addr.mk h.size 0 none).add 2) .i64 fun n268 =>
 ldI (h.push (.cells i3 67)) ((Addr.mk h.size 0 none).add 3) .i64 fun n269 =>
 Run tc.P 15 #[(.pointer i0), (.int .i64 n268), (.int .i64 n269)] (h.push (.cells i3 67)) fun x270 h271 =>
 onTup 0 x270 fun x272 =>
 onSl x272 fun p273 l274 c275 =>
 onTup 1 x270 fun x276 =>
 onI .i64 x276 fun n277 =>
 ldI h271 ((Addr.mk h.size 0 none).add 2) .i64 fun n278 =>
 ldI h271 ((Addr.mk h.size 0 none).add 3) .i64 fun n279 =>
 Run tc.P 43 #[(.pointer i2), (.int .i64 n278), (.int .i64 n279)] h271 fun x280 h281 =>
 onTup 0 x280 fun x282 =>
 onSl x282 fun p283 l284 c285 =>
 onTup 1 x280 fun x286 =>
 onI .i64 x286 fun n287 =>
 Run tc.P 16 #[(.slice p273 l274 c275), (.slice p283 l284 c285)] h281 fun x288 h289 =>
 onB x288 fun b290 =>
 bsel b290 (K (.bool (decide (n277 = n287))) h289)
 (K (.bool false) h289))
 (bsel (decide (n1 = 6)) (ldR (h.push (.cells i3 67)) (Addr.mk h.size 0 none) 8 fun g291 =>
 Run tc.P 44 #[(.agg g291)] (h.push (.cells i3 67)) fun x292 h293 =>
 onSl x292 fun p294 l295 c296 =>
 ldI h293 ((Addr.mk h.size 0 none).add 2) .i64 fun n297 =>
 ldI h293 ((Addr.mk h.size 0 none).add 3) .i64 fun n298 =>
 Run tc.P 13 #[(.pointer i0), (.int .i64 n297), (.int .i64 n298), (.slice p294 l295 c296)] h293 fun x299 h300 =>
 onI .i64 x299 fun n301 =>
 ldR h300 (Addr.mk h.size 0 none) 8 fun g302 =>
 Run tc.P 44 #[(.agg g302)] h300 fun x303 h304 =>
 onSl x303 fun p305 l306 c307 =>
 Run tc.P 16 #[(.slice p294 l295 c296), (.slice p305 l306 c307)] h304 fun x308 h309 =>
 onB x308 fun b310 =>
 bsel (!b310) (K (.bool false) h309)
 (LoopI (σ := (Int) × Unit) (fun st311 h312 J313 =>
 bsel (decide (st311.1 < ((l295 : Nat) : Int))) (((0 : Int) ≤ st311.1 ∧ st311.1 < ((l295 : Nat) : Int)) ∧
 onO p294 fun a314 =>
 ldI h312 (a314.add (Int.toNat st311.1 * 1)) .u8 fun n315 =>
 ((0 : Int) ≤ st311.1 ∧ st311.1 < ((l295 : Nat) : Int)) ∧
 onO p294 fun a316 =>
 st h312 (a316.add (Int.toNat st311.1 * 1)) #[(.int .u8 (xorN .u8 n315))] fun h317 =>
 J313 ((IntKind.i64.wrap (st311.1 + 1)), ()) h317)
 (ldI h312 ((Addr.mk h.size 0 none).add 2) .i64 fun n318 =>
 ldI h312 ((Addr.mk h.size 0 none).add 3) .i64 fun n319 =>
 ldR h312 (Addr.mk h.size 0 none) 8 fun g320 =>
 Run tc.P 44 #[(.agg g320)] h312 fun x321 h322 =>
 onSl x321 fun p323 l324 c325 =>
 Keep h312 h322 ∧
 Run tc.P 45 #[(.pointer i2), (.int .i64 n318), (.int .i64 n319), (.slice p323 l324 c325)] h322 fun x326 h327 =>
 onI .i64 x326 fun n328 =>
 K (.bool (decide (n301 = n328))) h327))
 (0, ()) h309))
 (bsel (decide (n1 = 7)) (Run tc.P 22 #[(.pointer i0)] (h.push (.cells i3 67)) fun x329 h330 =>
 onI .i64 x329 fun n331 =>
 Run tc.P 46 #[(.pointer i2)] h330 fun x332 h333 =>
 onI .i64 x332 fun n334 =>
 K (.bool (decide (n331 = n334))) h333)
 (bsel (decide (n1 = 9)) (ldI (h.push (.cells i3 67)) ((Addr.mk h.size 0 none).add 2) .i64 fun n335 =>
 Run tc.P 21 #[(.pointer i1), (.int .i64 n335)] (h.push (.cells i3 67)) fun x336 h337 =>
 onI .i64 x336 fun n338 =>
 onPtr (.pointer i2) fun a339 =>
 ldP h337 (a339.add 1) fun p340 =>
 ldI h337 ((Addr.mk h.size 0 none).add 2) .i64 fun n341 =>
 Run tc.P 47 #[(.pointer p340), (.int .i64 n341)] h337 fun x342 h343 =>
 onI .i64 x342 fun n344 =>
 K (.bool (decide (n338 = n344))) h343)
 (bsel (decide (n1 = 10)) (ldS (h.push (.cells i3 67)) ((Addr.mk h.size 0 none).add 7) fun p345 l346 c347 =>
 Run tc.P 27 #[(.slice p345 l346 c347)] (h.push (.cells i3 67)) fun x348 h349 =>
 onSl x348 fun p350 l351 c352 =>
 Run tc.P 26 #[(.pointer i1), (.slice p350 l351 c352)] h349 fun x353 h354 =>
 onI .i64 x353 fun n355 =>
 onPtr (.pointer i2) fun a356 =>
 ldP h354 (a356.add 1) fun p357 =>
 ldS h354 ((Addr.mk h.size 0 none).add 7) fun p358 l359 c360 =>
 Run tc.P 48 #[(.pointer p357), (.slice p358 l359 c360)] h354 fun x361 h362 =>
 onI .i64 x361 fun n363 =>
 K (.bool (decide (n355 = n363))) h362)
 (bsel (decide (n1 = 11)) (ldI (h.push (.cells i3 67)) ((Addr.mk h.size 0 none).add 3) .i64 fun n364 =>
 Run tc.P 49 #[(.pointer i1), (.int .i64 n364)] (h.push (.cells i3 67)) fun x365 h366 =>
 onTup 0 x365 fun x367 =>
 onSl x367 fun p368 l369 c370 =>
 onTup 1 x365 fun x371 =>
 onI .i64 x371 fun n372 =>
 onPtr (.pointer i2) fun a373 =>
 ldP h366 (a373.add 1) fun p374 =>
 ldI h366 ((Addr.mk h.size 0 none).add 3) .i64 fun n375 =>
 Run tc.P 50 #[(.pointer p374), (.int .i64 n375)] h366 fun x376 h377 =>
 onTup 0 x376 fun x378 =>
 onSl x378 fun p379 l380 c381 =>
 onTup 1 x376 fun x382 =>
 onI .i64 x382 fun n383 =>
 Run tc.P 16 #[(.slice p368 l369 c370), (.slice p379 l380 c381)] h377 fun x384 h385 =>
 onB x384 fun b386 =>
 bsel b386 (K (.bool (decide (n372 = n383))) h385)
 (K (.bool false) h385))
 (bsel (decide (n1 = 13)) (Run tc.P 51 #[(.pointer i1)] (h.push (.cells i3 67)) fun x387 h388 =>
 onI .i64 x387 fun n389 =>
 onPtr (.pointer i2) fun a390 =>
 ldP h388 (a390.add 1) fun p391 =>
 Run tc.P 52 #[(.pointer p391)] h388 fun x392 h393 =>
 onI .i64 x392 fun n394 =>
 K (.bool (decide (n389 = n394))) h393)
 (K (.bool true) (h.push (.cells i3 67)))))))))))
 (bsel (decide (n1 = 4)) (bsel (decide (n1 = 4)) (ldR (h.push (.cells i3 67)) (Addr.mk h.size 0 none) 8 fun g395 =>
 Run tc.P 42 #[(.pointer i0), (.pointer i2), (.agg g395)] (h.push (.cells i3 67)) fun x396 h397 =>
 onB x396 fun b398 =>
 K (.bool b398) h397)
 (bsel (decide (n1 = 5)) (ldI (h.push (.cells i3 67)) ((Addr.mk h.size 0 none).add 2) .i64 fun n399 =>
 ldI (h.push (.cells i3 67)) ((Addr.mk h.size 0 none).add 3) .i64 fun n400 =>
 Run tc.P 15 #[(.pointer i0), (.int .i64 n399), (.int .i64 n400)] (h.push (.cells i3 67)) fun x401 h402 =>
 onTup 0 x401 fun x403 =>
 onSl x403 fun p404 l405 c406 =>
 onTup 1 x401 fun x407 =>
 onI .i64 x407 fun n408 =>
 ldI h402 ((Addr.mk h.size 0 none).add 2) .i64 fun n409 =>
 ldI h402 ((Addr.mk h.size 0 none).add 3) .i64 fun n410 =>
 Run tc.P 43 #[(.pointer i2), (.int .i64 n409), (.int .i64 n410)] h402 fun x411 h412 =>
 onTup 0 x411 fun x413 =>
 onSl x413 fun p414 l415 c416 =>
 onTup 1 x411 fun x417 =>
 onI .i64 x417 fun n418 =>
 Run tc.P 16 #[(.slice p404 l405 c406), (.slice p414 l415 c416)] h412 fun x419 h420 =>
 onB x419 fun b421 =>
 bsel b421 (K (.bool (decide (n408 = n418))) h420)
 (K (.bool false) h420))
 (bsel (decide (n1 = 6)) (ldR (h.push (.cells i3 67)) (Addr.mk h.size 0 none) 8 fun g422 =>
 Run tc.P 44 #[(.agg g422)] (h.push (.cells i3 67)) fun x423 h424 =>
 onSl x423 fun p425 l426 c427 =>
 ldI h424 ((Addr.mk h.size 0 none).add 2) .i64 fun n428 =>
 ldI h424 ((Addr.mk h.size 0 none).add 3) .i64 fun n429 =>
 Run tc.P 13 #[(.pointer i0), (.int .i64 n428), (.int .i64 n429), (.slice p425 l426 c427)] h424 fun x430 h431 =>
 onI .i64 x430 fun n432 =>
 ldR h431 (Addr.mk h.size 0 none) 8 fun g433 =>
 Run tc.P 44 #[(.agg g433)] h431 fun x434 h435 =>
 onSl x434 fun p436 l437 c438 =>
 Run tc.P 16 #[(.slice p425 l426 c427), (.slice p436 l437 c438)] h435 fun x439 h440 =>
 onB x439 fun b441 =>
 bsel (!b441) (K (.bool false) h440)
 (LoopI (σ := (Int) × Unit) (fun st442 h443 J444 =>
 bsel (decide (st442.1 < ((l426 : Nat) : Int))) (((0 : Int) ≤ st442.1 ∧ st442.1 < ((l426 : Nat) : Int)) ∧
 onO p425 fun a445 =>
 ldI h443 (a445.add (Int.toNat st442.1 * 1)) .u8 fun n446 =>
 ((0 : Int) ≤ st442.1 ∧ st442.1 < ((l426 : Nat) : Int)) ∧
 onO p425 fun a447 =>
 st h443 (a447.add (Int.toNat st442.1 * 1)) #[(.int .u8 (xorN .u8 n446))] fun h448 =>
 J444 ((IntKind.i64.wrap (st442.1 + 1)), ()) h448)
 (ldI h443 ((Addr.mk h.size 0 none).add 2) .i64 fun n449 =>
 ldI h443 ((Addr.mk h.size 0 none).add 3) .i64 fun n450 =>
 ldR h443 (Addr.mk h.size 0 none) 8 fun g451 =>
 Run tc.P 44 #[(.agg g451)] h443 fun x452 h453 =>
 onSl x452 fun p454 l455 c456 =>
 Keep h443 h453 ∧
 Run tc.P 45 #[(.pointer i2), (.int .i64 n449), (.int .i64 n450), (.slice p454 l455 c456)] h453 fun x457 h458 =>
 onI .i64 x457 fun n459 =>
 K (.bool (decide (n432 = n459))) h458))
 (0, ()) h440))
 (bsel (decide (n1 = 7)) (Run tc.P 22 #[(.pointer i0)] (h.push (.cells i3 67)) fun x460 h461 =>
 onI .i64 x460 fun n462 =>
 Run tc.P 46 #[(.pointer i2)] h461 fun x463 h464 =>
 onI .i64 x463 fun n465 =>
 K (.bool (decide (n462 = n465))) h464)
 (bsel (decide (n1 = 9)) (ldI (h.push (.cells i3 67)) ((Addr.mk h.size 0 none).add 2) .i64 fun n466 =>
 Run tc.P 21 #[(.pointer i1), (.int .i64 n466)] (h.push (.cells i3 67)) fun x467 h468 =>
 onI .i64 x467 fun n469 =>
 onPtr (.pointer i2) fun a470 =>
 ldP h468 (a470.add 1) fun p471 =>
 ldI h468 ((Addr.mk h.size 0 none).add 2) .i64 fun n472 =>
 Run tc.P 47 #[(.pointer p471), (.int .i64 n472)] h468 fun x473 h474 =>
 onI .i64 x473 fun n475 =>
 K (.bool (decide (n469 = n475))) h474)
 (bsel (decide (n1 = 10)) (ldS (h.push (.cells i3 67)) ((Addr.mk h.size 0 none).add 7) fun p476 l477 c478 =>
 Run tc.P 27 #[(.slice p476 l477 c478)] (h.push (.cells i3 67)) fun x479 h480 =>
 onSl x479 fun p481 l482 c483 =>
 Run tc.P 26 #[(.pointer i1), (.slice p481 l482 c483)] h480 fun x484 h485 =>
 onI .i64 x484 fun n486 =>
 onPtr (.pointer i2) fun a487 =>
 ldP h485 (a487.add 1) fun p488 =>
 ldS h485 ((Addr.mk h.size 0 none).add 7) fun p489 l490 c491 =>
 Run tc.P 48 #[(.pointer p488), (.slice p489 l490 c491)] h485 fun x492 h493 =>
 onI .i64 x492 fun n494 =>
 K (.bool (decide (n486 = n494))) h493)
 (bsel (decide (n1 = 11)) (ldI (h.push (.cells i3 67)) ((Addr.mk h.size 0 none).add 3) .i64 fun n495 =>
 Run tc.P 49 #[(.pointer i1), (.int .i64 n495)] (h.push (.cells i3 67)) fun x496 h497 =>
 onTup 0 x496 fun x498 =>
 onSl x498 fun p499 l500 c501 =>
 onTup 1 x496 fun x502 =>
 onI .i64 x502 fun n503 =>
 onPtr (.pointer i2) fun a504 =>
 ldP h497 (a504.add 1) fun p505 =>
 ldI h497 ((Addr.mk h.size 0 none).add 3) .i64 fun n506 =>
 Run tc.P 50 #[(.pointer p505), (.int .i64 n506)] h497 fun x507 h508 =>
 onTup 0 x507 fun x509 =>
 onSl x509 fun p510 l511 c512 =>
 onTup 1 x507 fun x513 =>
 onI .i64 x513 fun n514 =>
 Run tc.P 16 #[(.slice p499 l500 c501), (.slice p510 l511 c512)] h508 fun x515 h516 =>
 onB x515 fun b517 =>
 bsel b517 (K (.bool (decide (n503 = n514))) h516)
 (K (.bool false) h516))
 (bsel (decide (n1 = 13)) (Run tc.P 51 #[(.pointer i1)] (h.push (.cells i3 67)) fun x518 h519 =>
 onI .i64 x518 fun n520 =>
 onPtr (.pointer i2) fun a521 =>
 ldP h519 (a521.add 1) fun p522 =>
 Run tc.P 52 #[(.pointer p522)] h519 fun x523 h524 =>
 onI .i64 x523 fun n525 =>
 K (.bool (decide (n520 = n525))) h524)
 (K (.bool true) (h.push (.cells i3 67)))))))))))
 (bsel (decide (n1 = 8)) (ldR (h.push (.cells i3 67)) (Addr.mk h.size 0 none) 8 fun g526 =>
 Run tc.P 42 #[(.pointer i0), (.pointer i2), (.agg g526)] (h.push (.cells i3 67)) fun x527 h528 =>
 onB x527 fun b529 =>
 K (.bool b529) h528)
 (bsel (decide (n1 = 5)) (ldI (h.push (.cells i3 67)) ((Addr.mk h.size 0 none).add 2) .i64 fun n530 =>
 ldI (h.push (.cells i3 67)) ((Addr.mk h.size 0 none).add 3) .i64 fun n531 =>
 Run tc.P 15 #[(.pointer i0), (.int .i64 n530), (.int .i64 n531)] (h.push (.cells i3 67)) fun x532 h533 =>
 onTup 0 x532 fun x534 =>
 onSl x534 fun p535 l536 c537 =>
 onTup 1 x532 fun x538 =>
 onI .i64 x538 fun n539 =>
 ldI h533 ((Addr.mk h.size 0 none).add 2) .i64 fun n540 =>
 ldI h533 ((Addr.mk h.size 0 none).add 3) .i64 fun n541 =>
 Run tc.P 43 #[(.pointer i2), (.int .i64 n540), (.int .i64 n541)] h533 fun x542 h543 =>
 onTup 0 x542 fun x544 =>
 onSl x544 fun p545 l546 c547 =>
 onTup 1 x542 fun x548 =>
 onI .i64 x548 fun n549 =>
 Run tc.P 16 #[(.slice p535 l536 c537), (.slice p545 l546 c547)] h543 fun x550 h551 =>
 onB x550 fun b552 =>
 bsel b552 (K (.bool (decide (n539 = n549))) h551)
 (K (.bool false) h551))
 (bsel (decide (n1 = 6)) (ldR (h.push (.cells i3 67)) (Addr.mk h.size 0 none) 8 fun g553 =>
 Run tc.P 44 #[(.agg g553)] (h.push (.cells i3 67)) fun x554 h555 =>
 onSl x554 fun p556 l557 c558 =>
 ldI h555 ((Addr.mk h.size 0 none).add 2) .i64 fun n559 =>
 ldI h555 ((Addr.mk h.size 0 none).add 3) .i64 fun n560 =>
 Run tc.P 13 #[(.pointer i0), (.int .i64 n559), (.int .i64 n560), (.slice p556 l557 c558)] h555 fun x561 h562 =>
 onI .i64 x561 fun n563 =>
 ldR h562 (Addr.mk h.size 0 none) 8 fun g564 =>
 Run tc.P 44 #[(.agg g564)] h562 fun x565 h566 =>
 onSl x565 fun p567 l568 c569 =>
 Run tc.P 16 #[(.slice p556 l557 c558), (.slice p567 l568 c569)] h566 fun x570 h571 =>
 onB x570 fun b572 =>
 bsel (!b572) (K (.bool false) h571)
 (LoopI (σ := (Int) × Unit) (fun st573 h574 J575 =>
 bsel (decide (st573.1 < ((l557 : Nat) : Int))) (((0 : Int) ≤ st573.1 ∧ st573.1 < ((l557 : Nat) : Int)) ∧
 onO p556 fun a576 =>
 ldI h574 (a576.add (Int.toNat st573.1 * 1)) .u8 fun n577 =>
 ((0 : Int) ≤ st573.1 ∧ st573.1 < ((l557 : Nat) : Int)) ∧
 onO p556 fun a578 =>
 st h574 (a578.add (Int.toNat st573.1 * 1)) #[(.int .u8 (xorN .u8 n577))] fun h579 =>
 J575 ((IntKind.i64.wrap (st573.1 + 1)), ()) h579)
 (ldI h574 ((Addr.mk h.size 0 none).add 2) .i64 fun n580 =>
 ldI h574 ((Addr.mk h.size 0 none).add 3) .i64 fun n581 =>
 ldR h574 (Addr.mk h.size 0 none) 8 fun g582 =>
 Run tc.P 44 #[(.agg g582)] h574 fun x583 h584 =>
 onSl x583 fun p585 l586 c587 =>
 Keep h574 h584 ∧
 Run tc.P 45 #[(.pointer i2), (.int .i64 n580), (.int .i64 n581), (.slice p585 l586 c587)] h584 fun x588 h589 =>
 onI .i64 x588 fun n590 =>
 K (.bool (decide (n563 = n590))) h589))
 (0, ()) h571))
 (bsel (decide (n1 = 7)) (Run tc.P 22 #[(.pointer i0)] (h.push (.cells i3 67)) fun x591 h592 =>
 onI .i64 x591 fun n593 =>
 Run tc.P 46 #[(.pointer i2)] h592 fun x594 h595 =>
 onI .i64 x594 fun n596 =>
 K (.bool (decide (n593 = n596))) h595)
 (bsel (decide (n1 = 9)) (ldI (h.push (.cells i3 67)) ((Addr.mk h.size 0 none).add 2) .i64 fun n597 =>
 Run tc.P 21 #[(.pointer i1), (.int .i64 n597)] (h.push (.cells i3 67)) fun x598 h599 =>
 onI .i64 x598 fun n600 =>
 onPtr (.pointer i2) fun a601 =>
 ldP h599 (a601.add 1) fun p602 =>
 ldI h599 ((Addr.mk h.size 0 none).add 2) .i64 fun n603 =>
 Run tc.P 47 #[(.pointer p602), (.int .i64 n603)] h599 fun x604 h605 =>
 onI .i64 x604 fun n606 =>
 K (.bool (decide (n600 = n606))) h605)
 (bsel (decide (n1 = 10)) (ldS (h.push (.cells i3 67)) ((Addr.mk h.size 0 none).add 7) fun p607 l608 c609 =>
 Run tc.P 27 #[(.slice p607 l608 c609)] (h.push (.cells i3 67)) fun x610 h611 =>
 onSl x610 fun p612 l613 c614 =>
 Run tc.P 26 #[(.pointer i1), (.slice p612 l613 c614)] h611 fun x615 h616 =>
 onI .i64 x615 fun n617 =>
 onPtr (.pointer i2) fun a618 =>
 ldP h616 (a618.add 1) fun p619 =>
 ldS h616 ((Addr.mk h.size 0 none).add 7) fun p620 l621 c622 =>
 Run tc.P 48 #[(.pointer p619), (.slice p620 l621 c622)] h616 fun x623 h624 =>
 onI .i64 x623 fun n625 =>
 K (.bool (decide (n617 = n625))) h624)
 (bsel (decide (n1 = 11)) (ldI (h.push (.cells i3 67)) ((Addr.mk h.size 0 none).add 3) .i64 fun n626 =>
 Run tc.P 49 #[(.pointer i1), (.int .i64 n626)] (h.push (.cells i3 67)) fun x627 h628 =>
 onTup 0 x627 fun x629 =>
 onSl x629 fun p630 l631 c632 =>
 onTup 1 x627 fun x633 =>
 onI .i64 x633 fun n634 =>
 onPtr (.pointer i2) fun a635 =>
 ldP h628 (a635.add 1) fun p636 =>
 ldI h628 ((Addr.mk h.size 0 none).add 3) .i64 fun n637 =>
 Run tc.P 50 #[(.pointer p636), (.int .i64 n637)] h628 fun x638 h639 =>
 onTup 0 x638 fun x640 =>
 onSl x640 fun p641 l642 c643 =>
 onTup 1 x638 fun x644 =>
 onI .i64 x644 fun n645 =>
 Run tc.P 16 #[(.slice p630 l631 c632), (.slice p641 l642 c643)] h639 fun x646 h647 =>
 onB x646 fun b648 =>
 bsel b648 (K (.bool (decide (n634 = n645))) h647)
 (K (.bool false) h647))
 (bsel (decide (n1 = 13)) (Run tc.P 51 #[(.pointer i1)] (h.push (.cells i3 67)) fun x649 h650 =>
 onI .i64 x649 fun n651 =>
 onPtr (.pointer i2) fun a652 =>
 ldP h650 (a652.add 1) fun p653 =>
 Run tc.P 52 #[(.pointer p653)] h650 fun x654 h655 =>
 onI .i64 x654 fun n656 =>
 K (.bool (decide (n651 = n656))) h655)
 (K (.bool true) (h.push (.cells i3 67))))))))))))))
theorem L30_run (i0 : Option Addr) (i1 : Option Addr) (i2 : Option Addr) (i3 : Array Value) (h : Hp) (K : Value → Hp → Prop) (hL : L30 i0 i1 i2 i3 h K) : Run tc.P 30 #[(.pointer i0), (.pointer i1), (.pointer i2), (.agg i3)] h K :=
  run_of_cwp tc_good Try.func30 { loops := [(18, [(15, .ti .i64)])], cuts := [], draws := [(21, [0, 1, 3, 2, 4, 5, 6, 7, 8], [6]), (29, [0, 1, 2, 4, 3, 5, 6, 7], []), (33, [0, 1, 2, 4, 3, 5, 6, 7], []), (37, [0, 1, 2, 4, 3, 5, 6, 7, 8, 9, 10, 11], [])] } _ _ _ ((show cwpF tc { loops := [(18, [(15, .ti .i64)])], cuts := [], draws := [(21, [0, 1, 3, 2, 4, 5, 6, 7, 8], [6]), (29, [0, 1, 2, 4, 3, 5, 6, 7], []), (33, [0, 1, 2, 4, 3, 5, 6, 7], []), (37, [0, 1, 2, 4, 3, 5, 6, 7, 8, 9, 10, 11], [])] } Try.f30 #[(.pointer i0), (.pointer i1), (.pointer i2), (.agg i3)] h K = L30 i0 i1 i2 i3 h K from by kernel_rfl) ▸ hL)

def L31 (i0 : Option Addr) (i1 : Int) (i2 : Option Addr) (l2 c2 : Nat) (h : Hp) (K : Value → Hp → Prop) : Prop :=
 Run tc.P 53 #[(.int .i64 i1)] h fun x1 h2 =>
 onB x1 fun b3 =>
 bsel (!b3) (K (.int .i64 40) h2)
 (bsel (!decide (((l2 : Nat) : Int) = 128)) (K (.int .i64 41) h2)
 (Run tc.P 54 #[(.pointer i0)] h2 fun x4 h5 =>
 onB x4 fun b6 =>
 bsel (!b6) (K (.int .i64 42) h5)
 (onO (fillL (zeroOf tc.P 93).toList [(0, 1, (.int .i64 i1))]) fun g7 =>
 szIs g7.toArray.size 129 (
 st (h5.push (.cells (zeroOf tc.P 93) 93)) (Addr.mk h5.size 0 none) g7.toArray fun h8 =>
 cpy 1 (.slice (slAddr (some ((Addr.mk h5.size 0 none).add 1)) 0 128 1) (128 - 0) (128 - 0)) (.slice i2 l2 c2) h8 fun x9 h10 =>
 onPtr (.pointer i0) fun a11 =>
 ldS h10 (a11.add 131072) fun p12 l13 c14 =>
 ldR h10 (Addr.mk h5.size 0 none) 129 fun g15 =>
 onO (fillL (zerosN (zeroOf tc.P 93) (1 * 129)).toList [(0, 129, (.agg g15))]) fun g16 =>
 Keep h10 (h10.push (.cells g16.toArray 93)) ∧
 apnd 93 129 136 (zeroOf tc.P 93) (.slice p12 l13 c14) (.slice (some (Addr.mk h10.size 0 none)) 1 1) (h10.push (.cells g16.toArray 93)) fun x17 h18 =>
 onPtr (.pointer i0) fun a19 =>
 szIs (Value.cells x17).size 1 (
 st h18 (a19.add 131072) (Value.cells x17) fun h20 =>
 K (.int .i64 0) h20)))))
theorem L31_run (i0 : Option Addr) (i1 : Int) (i2 : Option Addr) (l2 c2 : Nat) (h : Hp) (K : Value → Hp → Prop) (hL : L31 i0 i1 i2 l2 c2 h K) : Run tc.P 31 #[(.pointer i0), (.int .i64 i1), (.slice i2 l2 c2)] h K :=
  run_of_cwp tc_good Try.func31 { loops := [], cuts := [], draws := [(9, [0, 1, 2, 3, 4, 5, 6, 7, 8, 9, 10], [6])] } _ _ _ ((show cwpF tc { loops := [], cuts := [], draws := [(9, [0, 1, 2, 3, 4, 5, 6, 7, 8, 9, 10], [6])] } Try.f31 #[(.pointer i0), (.int .i64 i1), (.slice i2 l2 c2)] h K = L31 i0 i1 i2 l2 c2 h K from by kernel_rfl) ▸ hL)

def L32 (i0 : Int) (h : Hp) (K : Value → Hp → Prop) : Prop :=
 mkSl 108 4 32 (zeroOf tc.P 108) (.int .i64 (if 4096 < (if i0 < 0 then 0 else i0) then 4096 else (if i0 < 0 then 0 else i0))) (.int .i64 (if 4096 < (if i0 < 0 then 0 else i0) then 4096 else (if i0 < 0 then 0 else i0))) h fun x1 h2 =>
 onO (fillL (zeroOf tc.P 106).toList [(0, 1, x1)]) fun g3 =>
 K (.pointer (some (Addr.mk h2.size 0 none))) (h2.push (.cells g3.toArray 106))
theorem L32_run (i0 : Int) (h : Hp) (K : Value → Hp → Prop) (hL : L32 i0 h K) : Run tc.P 32 #[(.int .i64 i0)] h K :=
  run_of_cwp tc_good Try.func32 { loops := [], cuts := [], draws := [] } _ _ _ ((show cwpF tc { loops := [], cuts := [], draws := [] } Try.f32 #[(.int .i64 i0)] h K = L32 i0 h K from by kernel_rfl) ▸ hL)

def L33 (i0 : Option Addr) (i1 : Array Value) (h : Hp) (K : Value → Hp → Prop) : Prop :=
 LoopI (σ := Unit) (fun st1 h2 J3 =>
 onPtr (.pointer i0) fun a4 =>
 onPtr (.pointer i0) fun a5 =>
 ldI h2 (a4.add 2) .i64 fun n6 =>
 ldS h2 (a5.add 0) fun p7 l8 c9 =>
 bsel (decide (n6 < ((l8 : Nat) : Int))) (onPtr (.pointer i0) fun a10 =>
 onPtr (.pointer i0) fun a11 =>
 ldS h2 (a10.add 0) fun p12 l13 c14 =>
 ldI h2 (a11.add 2) .i64 fun n15 =>
 ((0 : Int) ≤ n15 ∧ n15 < ((l13 : Nat) : Int)) ∧
 onO p12 fun a16 =>
 ldB h2 ((a16.add (Int.toNat n15 * 4)).add 0) fun b17 =>
 bsel b17 (onPtr (.pointer i0) fun a18 =>
 ldI h2 (a18.add 2) .i64 fun n19 =>
 onPtr (.pointer i0) fun a20 =>
 st h2 (a20.add 2) #[(.int .i64 (IntKind.i64.wrap (n19 + 1)))] fun h21 =>
 J3 (()) h21)
 (onPtr (.pointer i0) fun a22 =>
 onPtr (.pointer i0) fun a23 =>
 ldI h2 (a22.add 2) .i64 fun n24 =>
 ldS h2 (a23.add 0) fun p25 l26 c27 =>
 bsel (decide (n24 = ((l26 : Nat) : Int))) (K (.tuple #[(.int .i64 (-1)), (.int .i64 2)]) h2)
 (onPtr (.pointer i0) fun a28 =>
 ldI h2 (a28.add 2) .i64 fun n29 =>
 ldR h2 (Addr.mk h.size 0 none) 3 fun g30 =>
 Run tc.P 55 #[(.pointer i0), (.int .i64 n29), (.agg g30)] h2 fun x31 h32 =>
 K (.tuple #[(.int .i64 n29), (.int .i64 0)]) h32)))
 (onPtr (.pointer i0) fun a33 =>
 onPtr (.pointer i0) fun a34 =>
 ldI h2 (a33.add 2) .i64 fun n35 =>
 ldS h2 (a34.add 0) fun p36 l37 c38 =>
 bsel (decide (n35 = ((l37 : Nat) : Int))) (K (.tuple #[(.int .i64 (-1)), (.int .i64 2)]) h2)
 (onPtr (.pointer i0) fun a39 =>
 ldI h2 (a39.add 2) .i64 fun n40 =>
 ldR h2 (Addr.mk h.size 0 none) 3 fun g41 =>
 Run tc.P 55 #[(.pointer i0), (.int .i64 n40), (.agg g41)] h2 fun x42 h43 =>
 K (.tuple #[(.int .i64 n40), (.int .i64 0)]) h43)))
 (()) (h.push (.cells i1 49))
theorem L33_run (i0 : Option Addr) (i1 : Array Value) (h : Hp) (K : Value → Hp → Prop) (hL : L33 i0 i1 h K) : Run tc.P 33 #[(.pointer i0), (.agg i1)] h K :=
  run_of_cwp tc_good Try.func33 { loops := [(1, [])], cuts := [], draws := [(1, [0, 1, 2, 4, 5, 6, 3, 7, 8, 9, 10, 11, 12, 13, 15, 16, 17, 14, 18, 19, 20, 21, 22], []), (3, [0, 1, 2, 4, 5, 6, 3, 7, 8, 9], [])] } _ _ _ ((show cwpF tc { loops := [(1, [])], cuts := [], draws := [(1, [0, 1, 2, 4, 5, 6, 3, 7, 8, 9, 10, 11, 12, 13, 15, 16, 17, 14, 18, 19, 20, 21, 22], []), (3, [0, 1, 2, 4, 5, 6, 3, 7, 8, 9], [])] } Try.f33 #[(.pointer i0), (.agg i1)] h K = L33 i0 i1 h K from by kernel_rfl) ▸ hL)

def L34 (i0 : Option Addr) (i1 : Int) (i2 : Array Value) (h : Hp) (K : Value → Hp → Prop) : Prop :=
 Run tc.P 56 #[(.pointer i0), (.int .i64 i1)] (h.push (.cells i2 49)) fun x1 h2 =>
 onB x1 fun b3 =>
 bsel (!b3) (K (.bool false) h2)
 (onPtr (.pointer i0) fun a4 =>
 ldS h2 (a4.add 0) fun p5 l6 c7 =>
 ldR h2 (Addr.mk h.size 0 none) 3 fun g8 =>
 ((0 : Int) ≤ i1 ∧ i1 < ((l6 : Nat) : Int)) ∧
 onO p5 fun a9 =>
 szIs g8.size 3 (
 st h2 ((a9.add (Int.toNat i1 * 4)).add 1) g8 fun h10 =>
 K (.bool true) h10))
theorem L34_run (i0 : Option Addr) (i1 : Int) (i2 : Array Value) (h : Hp) (K : Value → Hp → Prop) (hL : L34 i0 i1 i2 h K) : Run tc.P 34 #[(.pointer i0), (.int .i64 i1), (.agg i2)] h K :=
  run_of_cwp tc_good Try.func34 { loops := [], cuts := [], draws := [(3, [0, 1, 2, 4, 3, 5, 6, 7, 8], [])] } _ _ _ ((show cwpF tc { loops := [], cuts := [], draws := [(3, [0, 1, 2, 4, 3, 5, 6, 7, 8], [])] } Try.f34 #[(.pointer i0), (.int .i64 i1), (.agg i2)] h K = L34 i0 i1 i2 h K from by kernel_rfl) ▸ hL)

def L35 (i0 : Option Addr) (i1 : Int) (i2 : Array Value) (h : Hp) (K : Value → Hp → Prop) : Prop :=
 bsel (decide (i1 < 0)) (K (.int .i64 30) (h.push (.cells i2 49)))
 (onPtr (.pointer i0) fun a1 =>
 ldS (h.push (.cells i2 49)) (a1.add 0) fun p2 l3 c4 =>
 bsel (decide (((l3 : Nat) : Int) ≤ i1)) (K (.int .i64 30) (h.push (.cells i2 49)))
 (onPtr (.pointer i0) fun a5 =>
 ldS (h.push (.cells i2 49)) (a5.add 0) fun p6 l7 c8 =>
 ((0 : Int) ≤ i1 ∧ i1 < ((l7 : Nat) : Int)) ∧
 onO p6 fun a9 =>
 ldB (h.push (.cells i2 49)) ((a9.add (Int.toNat i1 * 4)).add 0) fun b10 =>
 bsel b10 (K (.int .i64 31) (h.push (.cells i2 49)))
 (ldR (h.push (.cells i2 49)) (Addr.mk h.size 0 none) 3 fun g11 =>
 Run tc.P 55 #[(.pointer i0), (.int .i64 i1), (.agg g11)] (h.push (.cells i2 49)) fun x12 h13 =>
 K (.int .i64 0) h13)))
theorem L35_run (i0 : Option Addr) (i1 : Int) (i2 : Array Value) (h : Hp) (K : Value → Hp → Prop) (hL : L35 i0 i1 i2 h K) : Run tc.P 35 #[(.pointer i0), (.int .i64 i1), (.agg i2)] h K :=
  run_of_cwp tc_good Try.func35 { loops := [], cuts := [], draws := [] } _ _ _ ((show cwpF tc { loops := [], cuts := [], draws := [] } Try.f35 #[(.pointer i0), (.int .i64 i1), (.agg i2)] h K = L35 i0 i1 i2 h K from by kernel_rfl) ▸ hL)

def L36 (i0 : Option Addr) (i1 : Int) (h : Hp) (K : Value → Hp → Prop) : Prop :=
 Run tc.P 53 #[(.int .i64 i1)] h fun x1 h2 =>
 onB x1 fun b3 =>
 bsel (!b3) (K (.tuple #[(.slice none 0 0), (.int .i64 40)]) h2)
 (onPtr (.pointer i0) fun a4 =>
 ldB h2 (a4.add 131075) fun b5 =>
 bsel b5 (K (.tuple #[(.slice none 0 0), (.int .i64 42)]) h2)
 (onPtr (.pointer i0) fun a6 =>
 ldS h2 (a6.add 131072) fun p7 l8 c9 =>
 LoopI (σ := (Int) × Unit) (fun st10 h11 J12 =>
 bsel (decide (0 ≤ st10.1)) (onPtr (.pointer i0) fun a13 =>
 ldS h11 (a13.add 131072) fun p14 l15 c16 =>
 ((0 : Int) ≤ st10.1 ∧ st10.1 < ((l15 : Nat) : Int)) ∧
 onO p14 fun a17 =>
 ldI h11 ((a17.add (Int.toNat st10.1 * 129)).add 0) .i64 fun n18 =>
 bsel (decide (n18 = i1)) (onPtr (.pointer i0) fun a19 =>
 ldS h11 (a19.add 131072) fun p20 l21 c22 =>
 ((0 : Int) ≤ st10.1 ∧ st10.1 < ((l21 : Nat) : Int)) ∧
 onO p20 fun a23 =>
 onO (fillL (zerosN (zeroOf tc.P 40) (1 * 1)).toList [(0, 1, (.slice (slAddr (some ((a23.add (Int.toNat st10.1 * 129)).add 1)) 0 128 1) (128 - 0) (128 - 0)))]) fun g24 =>
 Run tc.P 57 #[(.slice (some (Addr.mk h11.size 0 none)) 1 1)] (h11.push (.cells g24.toArray 40)) fun x25 h26 =>
 onSl x25 fun p27 l28 c29 =>
 K (.tuple #[(.slice p27 l28 c29), (.int .i64 0)]) h26)
 (J12 ((IntKind.i64.wrap (st10.1 - 1)), ()) h11))
 (onPtr (.pointer i0) fun a30 =>
 ((0 : Int) ≤ i1 ∧ i1 < (1024 : Int)) ∧
 onO (fillL (zerosN (zeroOf tc.P 40) (1 * 1)).toList [(0, 1, (.slice (slAddr (some ((a30.add 0).add (Int.toNat i1 * 128))) 0 128 1) (128 - 0) (128 - 0)))]) fun g31 =>
 Run tc.P 57 #[(.slice (some (Addr.mk h11.size 0 none)) 1 1)] (h11.push (.cells g31.toArray 40)) fun x32 h33 =>
 onSl x32 fun p34 l35 c36 =>
 K (.tuple #[(.slice p34 l35 c36), (.int .i64 0)]) h33))
 ((IntKind.i64.wrap (((l8 : Nat) : Int) - 1)), ()) h2))
theorem L36_run (i0 : Option Addr) (i1 : Int) (h : Hp) (K : Value → Hp → Prop) (hL : L36 i0 i1 h K) : Run tc.P 36 #[(.pointer i0), (.int .i64 i1)] h K :=
  run_of_cwp tc_good Try.func36 { loops := [(6, [(6, .ti .i64)])], cuts := [], draws := [] } _ _ _ ((show cwpF tc { loops := [(6, [(6, .ti .i64)])], cuts := [], draws := [] } Try.f36 #[(.pointer i0), (.int .i64 i1)] h K = L36 i0 i1 h K from by kernel_rfl) ▸ hL)

def L37 (i0 : Option Addr) (h : Hp) (K : Value → Hp → Prop) : Prop :=
 K (.func (.func 58) #[] #[(.pointer (some (Addr.mk h.size 0 none)))]) (h.push (.cells #[(.pointer i0)] 71))
theorem L37_run (i0 : Option Addr) (h : Hp) (K : Value → Hp → Prop) (hL : L37 i0 h K) : Run tc.P 37 #[(.pointer i0)] h K :=
  run_of_cwp tc_good Try.func37 { loops := [], cuts := [], draws := [] } _ _ _ ((show cwpF tc { loops := [], cuts := [], draws := [] } Try.f37 #[(.pointer i0)] h K = L37 i0 h K from by kernel_rfl) ▸ hL)

def L38 (i0 : Option Addr) (i1 : Int) (i2 : Int) (h : Hp) (K : Value → Hp → Prop) : Prop :=
 onPtr (.pointer i0) fun a1 =>
 ldP h (a1.add 1) fun p2 =>
 Run tc.P 39 #[(.pointer p2), (.int .i64 i1)] h fun x3 h4 =>
 onTup 0 x3 fun x5 =>
 onAgg x5 fun g6 =>
 onTup 1 x3 fun x7 =>
 onB x7 fun b8 =>
 szIs g6.size 3 (
 st (h4.push (.cells (zeroOf tc.P 49) 49)) (Addr.mk h4.size 0 none) g6 fun h9 =>
 bsel (!b8) (K (.tuple #[(.int .i64 0), (.int .i64 100)]) h9)
 (bsel (decide (i2 < 0)) (K (.tuple #[(.int .i64 0), (.int .i64 40)]) h9)
 (bsel (decide (32 ≤ i2)) (K (.tuple #[(.int .i64 0), (.int .i64 40)]) h9)
 (K (.tuple #[(.int .i64 (IntKind.i64.wrap ((IntKind.i64.wrap (i1 * 32)) + i2))), (.int .i64 0)]) h9))))
theorem L38_run (i0 : Option Addr) (i1 : Int) (i2 : Int) (h : Hp) (K : Value → Hp → Prop) (hL : L38 i0 i1 i2 h K) : Run tc.P 38 #[(.pointer i0), (.int .i64 i1), (.int .i64 i2)] h K :=
  run_of_cwp tc_good Try.func38 { loops := [], cuts := [], draws := [] } _ _ _ ((show cwpF tc { loops := [], cuts := [], draws := [] } Try.f38 #[(.pointer i0), (.int .i64 i1), (.int .i64 i2)] h K = L38 i0 i1 i2 h K from by kernel_rfl) ▸ hL)

def L39 (i0 : Option Addr) (i1 : Int) (h : Hp) (K : Value → Hp → Prop) : Prop :=
 Run tc.P 56 #[(.pointer i0), (.int .i64 i1)] (h.push (.cells (zeroOf tc.P 49) 49)) fun x1 h2 =>
 onB x1 fun b3 =>
 bsel (!b3) (ldR (h2.push (.cells (zeroOf tc.P 49) 49)) (Addr.mk h2.size 0 none) 3 fun g4 =>
 szIs g4.size 3 (
 st (h2.push (.cells (zeroOf tc.P 49) 49)) (Addr.mk h.size 0 none) g4 fun h5 =>
 ldR h5 (Addr.mk h.size 0 none) 3 fun g6 =>
 K (.tuple #[(.agg g6), (.bool false)]) h5))
 (onPtr (.pointer i0) fun a7 =>
 ldS h2 (a7.add 0) fun p8 l9 c10 =>
 ((0 : Int) ≤ i1 ∧ i1 < ((l9 : Nat) : Int)) ∧
 onO p8 fun a11 =>
 ldR h2 ((a11.add (Int.toNat i1 * 4)).add 1) 3 fun g12 =>
 szIs g12.size 3 (
 st h2 (Addr.mk h.size 0 none) g12 fun h13 =>
 ldR h13 (Addr.mk h.size 0 none) 3 fun g14 =>
 K (.tuple #[(.agg g14), (.bool true)]) h13))
theorem L39_run (i0 : Option Addr) (i1 : Int) (h : Hp) (K : Value → Hp → Prop) (hL : L39 i0 i1 h K) : Run tc.P 39 #[(.pointer i0), (.int .i64 i1)] h K :=
  run_of_cwp tc_good Try.func39 { loops := [], cuts := [], draws := [] } _ _ _ ((show cwpF tc { loops := [], cuts := [], draws := [] } Try.f39 #[(.pointer i0), (.int .i64 i1)] h K = L39 i0 i1 h K from by kernel_rfl) ▸ hL)

def L40 (i0 : Option Addr) (i1 : Value) (h : Hp) (K : Value → Hp → Prop) : Prop :=
 onPtr (.pointer i0) fun a1 =>
 ldS h (a1.add 131072) fun p2 l3 c4 =>
 LoopI (σ := (Int) × (Int) × Unit) (fun st5 h6 J7 =>
 bsel (decide (st5.2.1 < ((l3 : Nat) : Int))) (((0 : Int) ≤ st5.2.1 ∧ st5.2.1 < ((l3 : Nat) : Int)) ∧
 onO p2 fun a8 =>
 ldR h6 (a8.add (Int.toNat st5.2.1 * 129)) 129 fun g9 =>
 szIs g9.size 129 (
 st (h6.push (.cells (zeroOf tc.P 93) 93)) (Addr.mk h6.size 0 none) g9 fun h10 =>
 callV tc i1 #[(.int .i64 st5.2.1)] h10 fun x11 h12 =>
 onB x11 fun b13 =>
 bsel b13 (onPtr (.pointer i0) fun a14 =>
 ldI h12 ((Addr.mk h6.size 0 none).add 0) .i64 fun n15 =>
 ldR h12 ((Addr.mk h6.size 0 none).add 1) 128 fun g16 =>
 ((0 : Int) ≤ n15 ∧ n15 < (1024 : Int)) ∧
 szIs g16.size 128 (
 st h12 ((a14.add 0).add (Int.toNat n15 * 128)) g16 fun h17 =>
 J7 ((IntKind.i64.wrap (st5.1 + 1)), (IntKind.i64.wrap (st5.2.1 + 1)), ()) h17))
 (J7 (st5.1, (IntKind.i64.wrap (st5.2.1 + 1)), ()) h12)))
 (onPtr (.pointer i0) fun a18 =>
 st h6 (a18.add 131072) #[(.slice none 0 0)] fun h19 =>
 K (.int .i64 st5.1) h19))
 (0, 0, ()) h
theorem L40_run (i0 : Option Addr) (i1 : Value) (h : Hp) (K : Value → Hp → Prop) (hL : L40 i0 i1 h K) : Run tc.P 40 #[(.pointer i0), i1] h K :=
  run_of_cwp tc_good Try.func40 { loops := [(3, [(5, .ti .i64), (13, .ti .i64)])], cuts := [], draws := [(6, [0, 1, 3, 5, 6, 2, 4, 7, 8], [])] } _ _ _ ((show cwpF tc { loops := [(3, [(5, .ti .i64), (13, .ti .i64)])], cuts := [], draws := [(6, [0, 1, 3, 5, 6, 2, 4, 7, 8], [])] } Try.f40 #[(.pointer i0), i1] h K = L40 i0 i1 h K from by kernel_rfl) ▸ hL)

def L41 (i0 : Int) (i1 : Option Addr) (h : Hp) (K : Value → Hp → Prop) : Prop :=
 onPtr (.pointer i1) fun a1 =>
 ldS h a1 fun p2 l3 c4 =>
 bsel (decide (i0 < ((l3 : Nat) : Int))) (onPtr (.pointer i1) fun a5 =>
 ldS h a5 fun p6 l7 c8 =>
 ((0 : Int) ≤ i0 ∧ i0 < ((l7 : Nat) : Int)) ∧
 onO p6 fun a9 =>
 ldB h (a9.add (Int.toNat i0 * 1)) fun b10 =>
 K (.bool b10) h)
 (K (.bool false) h)
theorem L41_run (i0 : Int) (i1 : Option Addr) (h : Hp) (K : Value → Hp → Prop) (hL : L41 i0 i1 h K) : Run tc.P 41 #[(.int .i64 i0), (.pointer i1)] h K :=
  run_of_cwp tc_good Try.func41 { loops := [], cuts := [], draws := [] } _ _ _ ((show cwpF tc { loops := [], cuts := [], draws := [] } Try.f41 #[(.int .i64 i0), (.pointer i1)] h K = L41 i0 i1 h K from by kernel_rfl) ▸ hL)

def L42 (i0 : Option Addr) (i1 : Option Addr) (i2 : Array Value) (h : Hp) (K : Value → Hp → Prop) : Prop :=
 ldI (h.push (.cells i2 67)) ((Addr.mk h.size 0 none).add 0) .i64 fun n1 =>
 bsel (decide (n1 = 1)) (ldI (h.push (.cells i2 67)) ((Addr.mk h.size 0 none).add 2) .i64 fun n2 =>
 ldI (h.push (.cells i2 67)) ((Addr.mk h.size 0 none).add 4) .i64 fun n3 =>
 Run tc.P 9 #[(.pointer i0), (.int .i64 n2), (.int .i64 n3)] (h.push (.cells i2 67)) fun x4 h5 =>
 onTup 0 x4 fun x6 =>
 onI .i64 x6 fun n7 =>
 onTup 1 x4 fun x8 =>
 onI .i64 x8 fun n9 =>
 ldI h5 ((Addr.mk h.size 0 none).add 2) .i64 fun n10 =>
 ldI h5 ((Addr.mk h.size 0 none).add 4) .i64 fun n11 =>
 Run tc.P 60 #[(.pointer i1), (.int .i64 n10), (.int .i64 n11)] h5 fun x12 h13 =>
 onTup 0 x12 fun x14 =>
 onI .i64 x14 fun n15 =>
 onTup 1 x12 fun x16 =>
 onI .i64 x16 fun n17 =>
 bsel (decide (n7 = n15)) (K (.bool (decide (n9 = n17))) h13)
 (K (.bool false) h13))
 (bsel (decide (n1 = 2)) (ldI (h.push (.cells i2 67)) ((Addr.mk h.size 0 none).add 2) .i64 fun n18 =>
 Run tc.P 25 #[(.pointer i0), (.int .i64 n18)] (h.push (.cells i2 67)) fun x19 h20 =>
 onI .i64 x19 fun n21 =>
 ldI h20 ((Addr.mk h.size 0 none).add 2) .i64 fun n22 =>
 Run tc.P 61 #[(.pointer i1), (.int .i64 n22)] h20 fun x23 h24 =>
 onI .i64 x23 fun n25 =>
 K (.bool (decide (n21 = n25))) h24)
 (bsel (decide (n1 = 3)) (ldI (h.push (.cells i2 67)) ((Addr.mk h.size 0 none).add 2) .i64 fun n26 =>
 Run tc.P 62 #[(.pointer i0), (.int .i64 n26)] (h.push (.cells i2 67)) fun x27 h28 =>
 onTup 0 x27 fun x29 =>
 onB x29 fun b30 =>
 onTup 1 x27 fun x31 =>
 onI .i64 x31 fun n32 =>
 ldI h28 ((Addr.mk h.size 0 none).add 2) .i64 fun n33 =>
 Run tc.P 63 #[(.pointer i1), (.int .i64 n33)] h28 fun x34 h35 =>
 onTup 0 x34 fun x36 =>
 onB x36 fun b37 =>
 onTup 1 x34 fun x38 =>
 onI .i64 x38 fun n39 =>
 bsel (b30 == b37) (K (.bool (decide (n32 = n39))) h35)
 (K (.bool false) h35))
 (bsel (decide (n1 = 4)) (ldI (h.push (.cells i2 67)) ((Addr.mk h.size 0 none).add 2) .i64 fun n40 =>
 Run tc.P 19 #[(.pointer i0), (.int .i64 n40)] (h.push (.cells i2 67)) fun x41 h42 =>
 onTup 0 x41 fun x43 =>
 onI .i64 x43 fun n44 =>
 onTup 1 x41 fun x45 =>
 onI .i64 x45 fun n46 =>
 ldI h42 ((Addr.mk h.size 0 none).add 2) .i64 fun n47 =>
 Run tc.P 64 #[(.pointer i1), (.int .i64 n47)] h42 fun x48 h49 =>
 onTup 0 x48 fun x50 =>
 onI .i64 x50 fun n51 =>
 onTup 1 x48 fun x52 =>
 onI .i64 x52 fun n53 =>
 bsel (decide (n44 = n51)) (K (.bool (decide (n46 = n53))) h49)
 (K (.bool false) h49))
 (Run tc.P 11 #[(.pointer i0)] (h.push (.cells i2 67)) fun x54 h55 =>
 onSl x54 fun p56 l57 c58 =>
 Run tc.P 65 #[(.pointer i1)] h55 fun x59 h60 =>
 onSl x59 fun p61 l62 c63 =>
 Run tc.P 66 #[(.slice p56 l57 c58), (.slice p61 l62 c63)] h60 fun x64 h65 =>
 onB x64 fun b66 =>
 K (.bool b66) h65))))
theorem L42_run (i0 : Option Addr) (i1 : Option Addr) (i2 : Array Value) (h : Hp) (K : Value → Hp → Prop) (hL : L42 i0 i1 i2 h K) : Run tc.P 42 #[(.pointer i0), (.pointer i1), (.agg i2)] h K :=
  run_of_cwp tc_good Try.func42 { loops := [], cuts := [], draws := [] } _ _ _ ((show cwpF tc { loops := [], cuts := [], draws := [] } Try.f42 #[(.pointer i0), (.pointer i1), (.agg i2)] h K = L42 i0 i1 i2 h K from by kernel_rfl) ▸ hL)

def L43 (i0 : Option Addr) (i1 : Int) (i2 : Int) (h : Hp) (K : Value → Hp → Prop) : Prop :=
 Run tc.P 67 #[(.pointer i0), (.int .i64 i1), (.int .i64 i2)] h fun x1 h2 =>
 onTup 0 x1 fun x3 =>
 onI .i64 x3 fun n4 =>
 onTup 1 x1 fun x5 =>
 onI .i64 x5 fun n6 =>
 bsel (!decide (n6 = 0)) (K (.tuple #[(.slice none 0 0), (.int .i64 n6)]) h2)
 (onPtr (.pointer i0) fun a7 =>
 ldP h2 (a7.add 1) fun p8 =>
 Run tc.P 68 #[(.pointer p8), (.int .i64 n4)] h2 fun x9 h10 =>
 onTup 0 x9 fun x11 =>
 onSl x11 fun p12 l13 c14 =>
 onTup 1 x9 fun x15 =>
 onI .i64 x15 fun n16 =>
 K (.tuple #[(.slice p12 l13 c14), (.int .i64 n16)]) h10)
theorem L43_run (i0 : Option Addr) (i1 : Int) (i2 : Int) (h : Hp) (K : Value → Hp → Prop) (hL : L43 i0 i1 i2 h K) : Run tc.P 43 #[(.pointer i0), (.int .i64 i1), (.int .i64 i2)] h K :=
  run_of_cwp tc_good Try.func43 { loops := [], cuts := [], draws := [] } _ _ _ ((show cwpF tc { loops := [], cuts := [], draws := [] } Try.f43 #[(.pointer i0), (.int .i64 i1), (.int .i64 i2)] h K = L43 i0 i1 i2 h K from by kernel_rfl) ▸ hL)

def L44 (i0 : Array Value) (h : Hp) (K : Value → Hp → Prop) : Prop :=
 ldI (h.push (.cells i0 67)) ((Addr.mk h.size 0 none).add 5) .u8 fun n1 =>
 ldI (h.push (.cells i0 67)) ((Addr.mk h.size 0 none).add 6) .i64 fun n2 =>
 Run tc.P 14 #[(.int .u8 n1), (.int .i64 (IntKind.i64.wrap (Int.tmod (IntKind.u64.wrap n2) 256)))] (h.push (.cells i0 67)) fun x3 h4 =>
 onSl x3 fun p5 l6 c7 =>
 K (.slice p5 l6 c7) h4
theorem L44_run (i0 : Array Value) (h : Hp) (K : Value → Hp → Prop) (hL : L44 i0 h K) : Run tc.P 44 #[(.agg i0)] h K :=
  run_of_cwp tc_good Try.func44 { loops := [], cuts := [], draws := [] } _ _ _ ((show cwpF tc { loops := [], cuts := [], draws := [] } Try.f44 #[(.agg i0)] h K = L44 i0 h K from by kernel_rfl) ▸ hL)

def L45 (i0 : Option Addr) (i1 : Int) (i2 : Int) (i3 : Option Addr) (l3 c3 : Nat) (h : Hp) (K : Value → Hp → Prop) : Prop :=
 Run tc.P 67 #[(.pointer i0), (.int .i64 i1), (.int .i64 i2)] h fun x1 h2 =>
 onTup 0 x1 fun x3 =>
 onI .i64 x3 fun n4 =>
 onTup 1 x1 fun x5 =>
 onI .i64 x5 fun n6 =>
 bsel (!decide (n6 = 0)) (K (.int .i64 n6) h2)
 (onPtr (.pointer i0) fun a7 =>
 ldP h2 (a7.add 1) fun p8 =>
 Run tc.P 69 #[(.pointer p8), (.int .i64 n4), (.slice i3 l3 c3)] h2 fun x9 h10 =>
 onI .i64 x9 fun n11 =>
 K (.int .i64 n11) h10)
theorem L45_run (i0 : Option Addr) (i1 : Int) (i2 : Int) (i3 : Option Addr) (l3 c3 : Nat) (h : Hp) (K : Value → Hp → Prop) (hL : L45 i0 i1 i2 i3 l3 c3 h K) : Run tc.P 45 #[(.pointer i0), (.int .i64 i1), (.int .i64 i2), (.slice i3 l3 c3)] h K :=
  run_of_cwp tc_good Try.func45 { loops := [], cuts := [], draws := [] } _ _ _ ((show cwpF tc { loops := [], cuts := [], draws := [] } Try.f45 #[(.pointer i0), (.int .i64 i1), (.int .i64 i2), (.slice i3 l3 c3)] h K = L45 i0 i1 i2 i3 l3 c3 h K from by kernel_rfl) ▸ hL)

def L46 (i0 : Option Addr) (h : Hp) (K : Value → Hp → Prop) : Prop :=
 onPtr (.pointer i0) fun a1 =>
 ldP h (a1.add 1) fun p2 =>
 Run tc.P 70 #[(.pointer p2)] h fun x3 h4 =>
 onI .i64 x3 fun n5 =>
 K (.int .i64 n5) h4
theorem L46_run (i0 : Option Addr) (h : Hp) (K : Value → Hp → Prop) (hL : L46 i0 h K) : Run tc.P 46 #[(.pointer i0)] h K :=
  run_of_cwp tc_good Try.func46 { loops := [], cuts := [], draws := [] } _ _ _ ((show cwpF tc { loops := [], cuts := [], draws := [] } Try.f46 #[(.pointer i0)] h K = L46 i0 h K from by kernel_rfl) ▸ hL)

def L47 (i0 : Option Addr) (i1 : Int) (h : Hp) (K : Value → Hp → Prop) : Prop :=
 bsel (decide (i1 < 0)) (K (.int .i64 1) h)
 (onPtr (.pointer i0) fun a1 =>
 ldB h (a1.add 3) fun b2 =>
 bsel b2 (K (.int .i64 42) h)
 (onPtr (.pointer i0) fun a3 =>
 st h (a3.add 2) #[(.int .i64 i1)] fun h4 =>
 K (.int .i64 0) h4))
theorem L47_run (i0 : Option Addr) (i1 : Int) (h : Hp) (K : Value → Hp → Prop) (hL : L47 i0 i1 h K) : Run tc.P 47 #[(.pointer i0), (.int .i64 i1)] h K :=
  run_of_cwp tc_good Try.func47 { loops := [], cuts := [], draws := [] } _ _ _ ((show cwpF tc { loops := [], cuts := [], draws := [] } Try.f47 #[(.pointer i0), (.int .i64 i1)] h K = L47 i0 i1 h K from by kernel_rfl) ▸ hL)

def L48 (i0 : Option Addr) (i1 : Option Addr) (l1 c1 : Nat) (h : Hp) (K : Value → Hp → Prop) : Prop :=
 LoopI (σ := (Int) × (Int) × Unit) (fun st1 h2 J3 =>
 onPtr (.pointer i0) fun a4 =>
 ldS h2 (a4.add 1) fun p5 l6 c7 =>
 bsel (decide (st1.2.1 < ((l6 : Nat) : Int))) (bsel (decide (st1.2.1 < ((l1 : Nat) : Int))) (((0 : Int) ≤ st1.2.1 ∧ st1.2.1 < ((l1 : Nat) : Int)) ∧
 onO i1 fun a8 =>
 ldB h2 (a8.add (Int.toNat st1.2.1 * 1)) fun b9 =>
 bsel b9 (onPtr (.pointer i0) fun a10 =>
 onPtr (.pointer i0) fun a11 =>
 ldS h2 (a10.add 0) fun p12 l13 c14 =>
 ldS h2 (a11.add 1) fun p15 l16 c17 =>
 ((0 : Int) ≤ st1.2.1 ∧ st1.2.1 < ((l16 : Nat) : Int)) ∧
 onO p15 fun a18 =>
 ldR h2 (a18.add (Int.toNat st1.2.1 * 3)) 3 fun g19 =>
 onO (fillL (zerosN (zeroOf tc.P 116) (1 * 3)).toList [(0, 3, (.agg g19))]) fun g20 =>
 Keep h2 (h2.push (.cells g20.toArray 116)) ∧
 apnd 116 3 40 (zeroOf tc.P 116) (.slice p12 l13 c14) (.slice (some (Addr.mk h2.size 0 none)) 1 1) (h2.push (.cells g20.toArray 116)) fun x21 h22 =>
 onPtr (.pointer i0) fun a23 =>
 szIs (Value.cells x21).size 1 (
 st h22 (a23.add 0) (Value.cells x21) fun h24 =>
 J3 ((IntKind.i64.wrap (st1.1 + 1)), (IntKind.i64.wrap (st1.2.1 + 1)), ()) h24))
 (J3 (st1.1, (IntKind.i64.wrap (st1.2.1 + 1)), ()) h2))
 (J3 (st1.1, (IntKind.i64.wrap (st1.2.1 + 1)), ()) h2))
 (onPtr (.pointer i0) fun a25 =>
 st h2 (a25.add 1) #[(.slice none 0 0)] fun h26 =>
 onPtr (.pointer i0) fun a27 =>
 st h26 (a27.add 2) #[(.int .i64 (-1))] fun h28 =>
 onPtr (.pointer i0) fun a29 =>
 st h28 (a29.add 3) #[(.bool false)] fun h30 =>
 K (.int .i64 st1.1) h30))
 (0, 0, ()) h
theorem L48_run (i0 : Option Addr) (i1 : Option Addr) (l1 c1 : Nat) (h : Hp) (K : Value → Hp → Prop) (hL : L48 i0 i1 l1 c1 h K) : Run tc.P 48 #[(.pointer i0), (.slice i1 l1 c1)] h K :=
  run_of_cwp tc_good Try.func48 { loops := [(3, [(5, .ti .i64), (6, .ti .i64)])], cuts := [], draws := [(6, [0, 1, 2, 3, 5, 6, 7, 9, 4, 8, 10, 11, 12, 13, 14, 15, 16], [12])] } _ _ _ ((show cwpF tc { loops := [(3, [(5, .ti .i64), (6, .ti .i64)])], cuts := [], draws := [(6, [0, 1, 2, 3, 5, 6, 7, 9, 4, 8, 10, 11, 12, 13, 14, 15, 16], [12])] } Try.f48 #[(.pointer i0), (.slice i1 l1 c1)] h K = L48 i0 i1 l1 c1 h K from by kernel_rfl) ▸ hL)

def L49 (i0 : Option Addr) (i1 : Int) (h : Hp) (K : Value → Hp → Prop) : Prop :=
 Run tc.P 53 #[(.int .i64 i1)] h fun x1 h2 =>
 onB x1 fun b3 =>
 bsel (!b3) (K (.tuple #[(.slice none 0 0), (.int .i64 40)]) h2)
 (onPtr (.pointer i0) fun a4 =>
 ((0 : Int) ≤ i1 ∧ i1 < (1024 : Int)) ∧
 onO (fillL (zerosN (zeroOf tc.P 40) (1 * 1)).toList [(0, 1, (.slice (slAddr (some ((a4.add 0).add (Int.toNat i1 * 128))) 0 128 1) (128 - 0) (128 - 0)))]) fun g5 =>
 Run tc.P 57 #[(.slice (some (Addr.mk h2.size 0 none)) 1 1)] (h2.push (.cells g5.toArray 40)) fun x6 h7 =>
 onSl x6 fun p8 l9 c10 =>
 K (.tuple #[(.slice p8 l9 c10), (.int .i64 0)]) h7)
theorem L49_run (i0 : Option Addr) (i1 : Int) (h : Hp) (K : Value → Hp → Prop) (hL : L49 i0 i1 h K) : Run tc.P 49 #[(.pointer i0), (.int .i64 i1)] h K :=
  run_of_cwp tc_good Try.func49 { loops := [], cuts := [], draws := [] } _ _ _ ((show cwpF tc { loops := [], cuts := [], draws := [] } Try.f49 #[(.pointer i0), (.int .i64 i1)] h K = L49 i0 i1 h K from by kernel_rfl) ▸ hL)

def L50 (i0 : Option Addr) (i1 : Int) (h : Hp) (K : Value → Hp → Prop) : Prop :=
 Run tc.P 71 #[(.int .i64 i1)] h fun x1 h2 =>
 onB x1 fun b3 =>
 bsel (!b3) (K (.tuple #[(.slice none 0 0), (.int .i64 40)]) h2)
 (mkSl 5 1 1 (zeroOf tc.P 5) (.int .i64 128) (.int .i64 128) h2 fun x4 h5 =>
 onPtr (.pointer i0) fun a6 =>
 ldS h5 (a6.add 0) fun p7 l8 c9 =>
 Run tc.P 72 #[x4, (.slice p7 l8 c9), (.int .i64 i1)] h5 fun x10 h11 =>
 K (.tuple #[x4, (.int .i64 0)]) h11)
theorem L50_run (i0 : Option Addr) (i1 : Int) (h : Hp) (K : Value → Hp → Prop) (hL : L50 i0 i1 h K) : Run tc.P 50 #[(.pointer i0), (.int .i64 i1)] h K :=
  run_of_cwp tc_good Try.func50 { loops := [], cuts := [], draws := [] } _ _ _ ((show cwpF tc { loops := [], cuts := [], draws := [] } Try.f50 #[(.pointer i0), (.int .i64 i1)] h K = L50 i0 i1 h K from by kernel_rfl) ▸ hL)

def L51 (i0 : Option Addr) (h : Hp) (K : Value → Hp → Prop) : Prop :=
 onPtr (.pointer i0) fun a1 =>
 ldI h (a1.add 131076) .i64 fun n2 =>
 K (.int .i64 n2) h
theorem L51_run (i0 : Option Addr) (h : Hp) (K : Value → Hp → Prop) (hL : L51 i0 h K) : Run tc.P 51 #[(.pointer i0)] h K :=
  run_of_cwp tc_good Try.func51 { loops := [], cuts := [], draws := [] } _ _ _ ((show cwpF tc { loops := [], cuts := [], draws := [] } Try.f51 #[(.pointer i0)] h K = L51 i0 h K from by kernel_rfl) ▸ hL)

def L52 (i0 : Option Addr) (h : Hp) (K : Value → Hp → Prop) : Prop :=
 onPtr (.pointer i0) fun a1 =>
 ldI h (a1.add 4) .i64 fun n2 =>
 K (.int .i64 n2) h
theorem L52_run (i0 : Option Addr) (h : Hp) (K : Value → Hp → Prop) (hL : L52 i0 h K) : Run tc.P 52 #[(.pointer i0)] h K :=
  run_of_cwp tc_good Try.func52 { loops := [], cuts := [], draws := [] } _ _ _ ((show cwpF tc { loops := [], cuts := [], draws := [] } Try.f52 #[(.pointer i0)] h K = L52 i0 h K from by kernel_rfl) ▸ hL)

def L53 (i0 : Int) (h : Hp) (K : Value → Hp → Prop) : Prop :=
 bsel (decide (0 ≤ i0)) (K (.bool (decide (i0 < 1024))) h)
 (K (.bool false) h)
theorem L53_run (i0 : Int) (h : Hp) (K : Value → Hp → Prop) (hL : L53 i0 h K) : Run tc.P 53 #[(.int .i64 i0)] h K :=
  run_of_cwp tc_good Try.func53 { loops := [], cuts := [], draws := [] } _ _ _ ((show cwpF tc { loops := [], cuts := [], draws := [] } Try.f53 #[(.int .i64 i0)] h K = L53 i0 h K from by kernel_rfl) ▸ hL)

def L54 (i0 : Option Addr) (h : Hp) (K : Value → Hp → Prop) : Prop :=
 onPtr (.pointer i0) fun a1 =>
 ldB h (a1.add 131075) fun b2 =>
 bsel b2 (K (.bool false) h)
 (onPtr (.pointer i0) fun a3 =>
 ldB h (a3.add 131073) fun b4 =>
 bsel b4 (onPtr (.pointer i0) fun a5 =>
 ldI h (a5.add 131074) .i64 fun n6 =>
 bsel (decide (n6 = 0)) (onPtr (.pointer i0) fun a7 =>
 st h (a7.add 131075) #[(.bool true)] fun h8 =>
 K (.bool false) h8)
 (onPtr (.pointer i0) fun a9 =>
 ldI h (a9.add 131074) .i64 fun n10 =>
 onPtr (.pointer i0) fun a11 =>
 st h (a11.add 131074) #[(.int .i64 (IntKind.i64.wrap (n10 - 1)))] fun h12 =>
 onPtr (.pointer i0) fun a13 =>
 ldI h12 (a13.add 131076) .i64 fun n14 =>
 onPtr (.pointer i0) fun a15 =>
 st h12 (a15.add 131076) #[(.int .i64 (IntKind.i64.wrap (n14 + 1)))] fun h16 =>
 K (.bool true) h16))
 (onPtr (.pointer i0) fun a17 =>
 ldI h (a17.add 131076) .i64 fun n18 =>
 onPtr (.pointer i0) fun a19 =>
 st h (a19.add 131076) #[(.int .i64 (IntKind.i64.wrap (n18 + 1)))] fun h20 =>
 K (.bool true) h20))
theorem L54_run (i0 : Option Addr) (h : Hp) (K : Value → Hp → Prop) (hL : L54 i0 h K) : Run tc.P 54 #[(.pointer i0)] h K :=
  run_of_cwp tc_good Try.func54 { loops := [], cuts := [], draws := [] } _ _ _ ((show cwpF tc { loops := [], cuts := [], draws := [] } Try.f54 #[(.pointer i0)] h K = L54 i0 h K from by kernel_rfl) ▸ hL)

def L55 (i0 : Option Addr) (i1 : Int) (i2 : Array Value) (h : Hp) (K : Value → Hp → Prop) : Prop :=
 onPtr (.pointer i0) fun a1 =>
 ldS (h.push (.cells i2 49)) (a1.add 0) fun p2 l3 c4 =>
 ldR (h.push (.cells i2 49)) (Addr.mk h.size 0 none) 3 fun g5 =>
 onO (fillL (zeroOf tc.P 108).toList [(0, 1, (.bool true)), (1, 3, (.agg g5))]) fun g6 =>
 ((0 : Int) ≤ i1 ∧ i1 < ((l3 : Nat) : Int)) ∧
 onO p2 fun a7 =>
 szIs g6.toArray.size 4 (
 st (h.push (.cells i2 49)) (a7.add (Int.toNat i1 * 4)) g6.toArray fun h8 =>
 onPtr (.pointer i0) fun a9 =>
 ldI h8 (a9.add 1) .i64 fun n10 =>
 onPtr (.pointer i0) fun a11 =>
 st h8 (a11.add 1) #[(.int .i64 (IntKind.i64.wrap (n10 + 1)))] fun h12 =>
 K (.tuple #[]) h12)
theorem L55_run (i0 : Option Addr) (i1 : Int) (i2 : Array Value) (h : Hp) (K : Value → Hp → Prop) (hL : L55 i0 i1 i2 h K) : Run tc.P 55 #[(.pointer i0), (.int .i64 i1), (.agg i2)] h K :=
  run_of_cwp tc_good Try.func55 { loops := [], cuts := [], draws := [(1, [0, 1, 2, 4, 3, 5, 6, 7, 8], [])] } _ _ _ ((show cwpF tc { loops := [], cuts := [], draws := [(1, [0, 1, 2, 4, 3, 5, 6, 7, 8], [])] } Try.f55 #[(.pointer i0), (.int .i64 i1), (.agg i2)] h K = L55 i0 i1 i2 h K from by kernel_rfl) ▸ hL)

def L56 (i0 : Option Addr) (i1 : Int) (h : Hp) (K : Value → Hp → Prop) : Prop :=
 bsel (decide (0 ≤ i1)) (onPtr (.pointer i0) fun a1 =>
 ldS h (a1.add 0) fun p2 l3 c4 =>
 bsel (decide (i1 < ((l3 : Nat) : Int))) (onPtr (.pointer i0) fun a5 =>
 ldS h (a5.add 0) fun p6 l7 c8 =>
 ((0 : Int) ≤ i1 ∧ i1 < ((l7 : Nat) : Int)) ∧
 onO p6 fun a9 =>
 ldB h ((a9.add (Int.toNat i1 * 4)).add 0) fun b10 =>
 K (.bool b10) h)
 (K (.bool false) h))
 (K (.bool false) h)
theorem L56_run (i0 : Option Addr) (i1 : Int) (h : Hp) (K : Value → Hp → Prop) (hL : L56 i0 i1 h K) : Run tc.P 56 #[(.pointer i0), (.int .i64 i1)] h K :=
  run_of_cwp tc_good Try.func56 { loops := [], cuts := [], draws := [] } _ _ _ ((show cwpF tc { loops := [], cuts := [], draws := [] } Try.f56 #[(.pointer i0), (.int .i64 i1)] h K = L56 i0 i1 h K from by kernel_rfl) ▸ hL)

def L57 (i0 : Option Addr) (l0 c0 : Nat) (h : Hp) (K : Value → Hp → Prop) : Prop :=
 LoopI (σ := (Int) × (Int) × Unit) (fun st1 h2 J3 =>
 bsel (decide (st1.2.1 < ((l0 : Nat) : Int))) (((0 : Int) ≤ st1.2.1 ∧ st1.2.1 < ((l0 : Nat) : Int)) ∧
 onO i0 fun a4 =>
 ldS h2 (a4.add (Int.toNat st1.2.1 * 1)) fun p5 l6 c7 =>
 J3 ((IntKind.i64.wrap (st1.1 + ((l6 : Nat) : Int))), (IntKind.i64.wrap (st1.2.1 + 1)), ()) h2)
 (mkSl 5 1 1 (zeroOf tc.P 5) (.int .i64 st1.1) (.int .i64 st1.1) h2 fun x8 h9 =>
 LoopI (σ := (Int) × (Int) × Unit) (fun st10 h11 J12 =>
 bsel (decide (st10.2.1 < ((l0 : Nat) : Int))) (((0 : Int) ≤ st10.2.1 ∧ st10.2.1 < ((l0 : Nat) : Int)) ∧
 onO i0 fun a13 =>
 ldS h11 (a13.add (Int.toNat st10.2.1 * 1)) fun p14 l15 c16 =>
 onSl x8 fun p17 l18 c19 =>
 ((0 : Int) ≤ st10.1 ∧ st10.1 ≤ ((l18 : Nat) : Int)) ∧
 cpy 1 (.slice (slAddr p17 (Int.toNat st10.1) c19 1) (l18 - (Int.toNat st10.1)) (c19 - (Int.toNat st10.1))) (.slice p14 l15 c16) h11 fun x20 h21 =>
 onI .i64 x20 fun n22 =>
 J12 ((IntKind.i64.wrap (st10.1 + n22)), (IntKind.i64.wrap (st10.2.1 + 1)), ()) h21)
 (K x8 h11))
 (0, 0, ()) h9))
 (0, 0, ()) h
theorem L57_run (i0 : Option Addr) (l0 c0 : Nat) (h : Hp) (K : Value → Hp → Prop) (hL : L57 i0 l0 c0 h K) : Run tc.P 57 #[(.slice i0 l0 c0)] h K :=
  run_of_cwp tc_good Try.func57 { loops := [(3, [(3, .ti .i64), (12, .ti .i64)]), (10, [(7, .ti .i64), (25, .ti .i64)])], cuts := [], draws := [] } _ _ _ ((show cwpF tc { loops := [(3, [(3, .ti .i64), (12, .ti .i64)]), (10, [(7, .ti .i64), (25, .ti .i64)])], cuts := [], draws := [] } Try.f57 #[(.slice i0 l0 c0)] h K = L57 i0 l0 c0 h K from by kernel_rfl) ▸ hL)

def L58 (i0 : Value) (i1 : Option Addr) (h : Hp) (K : Value → Hp → Prop) : Prop :=
 onPtr (.pointer i1) fun a1 =>
 ldP h a1 fun p2 =>
 Run tc.P 59 #[(.pointer p2), (.int .i64 0)] h fun x3 h4 =>
 onI .i64 x3 fun n5 =>
 LoopI (σ := (Int) × Unit) (fun st6 h7 J8 =>
 bsel (decide (0 ≤ st6.1)) (onPtr (.pointer i1) fun a9 =>
 ldP h7 a9 fun p10 =>
 onPtr (.pointer p10) fun a11 =>
 ldS h7 (a11.add 0) fun p12 l13 c14 =>
 ((0 : Int) ≤ st6.1 ∧ st6.1 < ((l13 : Nat) : Int)) ∧
 onO p12 fun a15 =>
 ldR h7 ((a15.add (Int.toNat st6.1 * 4)).add 1) 3 fun g16 =>
 callV tc i0 #[(.int .i64 st6.1), (.agg g16)] h7 fun x17 h18 =>
 onB x17 fun b19 =>
 bsel (!b19) (K (.tuple #[]) h18)
 (onPtr (.pointer i1) fun a20 =>
 ldP h18 a20 fun p21 =>
 Run tc.P 59 #[(.pointer p21), (.int .i64 (IntKind.i64.wrap (st6.1 + 1)))] h18 fun x22 h23 =>
 onI .i64 x22 fun n24 =>
 J8 (n24, ()) h23))
 (K (.tuple #[]) h7))
 (n5, ()) h4
theorem L58_run (i0 : Value) (i1 : Option Addr) (h : Hp) (K : Value → Hp → Prop) (hL : L58 i0 i1 h K) : Run tc.P 58 #[i0, (.pointer i1)] h K :=
  run_of_cwp tc_good Try.func58 { loops := [(1, [(3, .ti .i64)])], cuts := [], draws := [] } _ _ _ ((show cwpF tc { loops := [(1, [(3, .ti .i64)])], cuts := [], draws := [] } Try.f58 #[i0, (.pointer i1)] h K = L58 i0 i1 h K from by kernel_rfl) ▸ hL)

def L59 (i0 : Option Addr) (i1 : Int) (h : Hp) (K : Value → Hp → Prop) : Prop :=
 LoopI (σ := (Int) × Unit) (fun st1 h2 J3 =>
 onPtr (.pointer i0) fun a4 =>
 ldS h2 (a4.add 0) fun p5 l6 c7 =>
 bsel (decide (st1.1 < ((l6 : Nat) : Int))) (onPtr (.pointer i0) fun a8 =>
 ldS h2 (a8.add 0) fun p9 l10 c11 =>
 ((0 : Int) ≤ st1.1 ∧ st1.1 < ((l10 : Nat) : Int)) ∧
 onO p9 fun a12 =>
 ldB h2 ((a12.add (Int.toNat st1.1 * 4)).add 0) fun b13 =>
 bsel b13 (K (.int .i64 st1.1) h2)
 (J3 ((IntKind.i64.wrap (st1.1 + 1)), ()) h2))
 (K (.int .i64 (-1)) h2))
 ((if i1 < 0 then 0 else i1), ()) h
theorem L59_run (i0 : Option Addr) (i1 : Int) (h : Hp) (K : Value → Hp → Prop) (hL : L59 i0 i1 h K) : Run tc.P 59 #[(.pointer i0), (.int .i64 i1)] h K :=
  run_of_cwp tc_good Try.func59 { loops := [(2, [(5, .ti .i64)])], cuts := [], draws := [] } _ _ _ ((show cwpF tc { loops := [(2, [(5, .ti .i64)])], cuts := [], draws := [] } Try.f59 #[(.pointer i0), (.int .i64 i1)] h K = L59 i0 i1 h K from by kernel_rfl) ▸ hL)

def L60 (i0 : Option Addr) (i1 : Int) (i2 : Int) (h : Hp) (K : Value → Hp → Prop) : Prop :=
 bsel (decide (i2 < 1)) (K (.tuple #[(.int .i64 (-1)), (.int .i64 1)]) h)
 (bsel (decide (4611686018427387903 < i2)) (K (.tuple #[(.int .i64 (-1)), (.int .i64 1)]) h)
 (bsel (decide (i1 = (-1))) (LoopI (σ := (Int) × Unit) (fun st1 h2 J3 =>
 bsel (decide (st1.1 < 32)) (Run tc.P 73 #[(.pointer i0), (.int .i64 st1.1)] h2 fun x4 h5 =>
 onI .i64 x4 fun n6 =>
 bsel (decide (0 ≤ n6)) (J3 ((IntKind.i64.wrap (st1.1 + 1)), ()) h5)
 (bsel (decide (st1.1 = 32)) (K (.tuple #[(.int .i64 (-1)), (.int .i64 2)]) h5)
 (bsel (decide (st1.1 < 0)) (K (.tuple #[(.int .i64 (-1)), (.int .i64 100)]) h5)
 (bsel (decide (32 ≤ st1.1)) (K (.tuple #[(.int .i64 (-1)), (.int .i64 100)]) h5)
 (Run tc.P 73 #[(.pointer i0), (.int .i64 st1.1)] h5 fun x7 h8 =>
 onI .i64 x7 fun n9 =>
 bsel (decide (0 ≤ n9)) (K (.tuple #[(.int .i64 (-1)), (.int .i64 101)]) h8)
 (onPtr (.pointer i0) fun a10 =>
 ldS h8 (a10.add 0) fun p11 l12 c13 =>
 onO (fillL (zeroOf tc.P 49).toList [(0, 1, (.int .i64 st1.1)), (1, 1, (.int .i64 i2)), (2, 1, (.int .i64 1))]) fun g14 =>
 onO (fillL (zerosN (zeroOf tc.P 49) (1 * 3)).toList [(0, 3, (.agg g14.toArray))]) fun g15 =>
 apnd 49 3 24 (zeroOf tc.P 49) (.slice p11 l12 c13) (.slice (some (Addr.mk h8.size 0 none)) 1 1) (h8.push (.cells g15.toArray 49)) fun x16 h17 =>
 onPtr (.pointer i0) fun a18 =>
 szIs (Value.cells x16).size 1 (
 st h17 (a18.add 0) (Value.cells x16) fun h19 =>
 K (.tuple #[(.int .i64 st1.1), (.int .i64 0)]) h19)))))))
 (bsel (decide (st1.1 = 32)) (K (.tuple #[(.int .i64 (-1)), (.int .i64 2)]) h2)
 (bsel (decide (st1.1 < 0)) (K (.tuple #[(.int .i64 (-1)), (.int .i64 100)]) h2)
 (bsel (decide (32 ≤ st1.1)) (K (.tuple #[(.int .i64 (-1)), (.int .i64 100)]) h2)
 (Run tc.P 73 #[(.pointer i0), (.int .i64 st1.1)] h2 fun x20 h21 =>
 onI .i64 x20 fun n22 =>
 bsel (decide (0 ≤ n22)) (K (.tuple #[(.int .i64 (-1)), (.int .i64 101)]) h21)
 (onPtr (.pointer i0) fun a23 =>
 ldS h21 (a23.add 0) fun p24 l25 c26 =>
 onO (fillL (zeroOf tc.P 49).toList [(0, 1, (.int .i64 st1.1)), (1, 1, (.int .i64 i2)), (2, 1, (.int .i64 1))]) fun g27 =>
 onO (fillL (zerosN (zeroOf tc.P 49) (1 * 3)).toList [(0, 3, (.agg g27.toArray))]) fun g28 =>
 apnd 49 3 24 (zeroOf tc.P 49) (.slice p24 l25 c26) (.slice (some (Addr.mk h21.size 0 none)) 1 1) (h21.push (.cells g28.toArray 49)) fun x29 h30 =>
 onPtr (.pointer i0) fun a31 =>
 szIs (Value.cells x29).size 1 (
 st h30 (a31.add 0) (Value.cells x29) fun h32 =>
 K (.tuple #[(.int .i64 st1.1), (.int .i64 0)]) h32)))))))
 (0, ()) h)
 (bsel (decide (i1 < 0)) (K (.tuple #[(.int .i64 (-1)), (.int .i64 100)]) h)
 (bsel (decide (32 ≤ i1)) (K (.tuple #[(.int .i64 (-1)), (.int .i64 100)]) h)
 (Run tc.P 73 #[(.pointer i0), (.int .i64 i1)] h fun x33 h34 =>
 onI .i64 x33 fun n35 =>
 bsel (decide (0 ≤ n35)) (K (.tuple #[(.int .i64 (-1)), (.int .i64 101)]) h34)
 (onPtr (.pointer i0) fun a36 =>
 ldS h34 (a36.add 0) fun p37 l38 c39 =>
 onO (fillL (zeroOf tc.P 49).toList [(0, 1, (.int .i64 i1)), (1, 1, (.int .i64 i2)), (2, 1, (.int .i64 1))]) fun g40 =>
 onO (fillL (zerosN (zeroOf tc.P 49) (1 * 3)).toList [(0, 3, (.agg g40.toArray))]) fun g41 =>
 apnd 49 3 24 (zeroOf tc.P 49) (.slice p37 l38 c39) (.slice (some (Addr.mk h34.size 0 none)) 1 1) (h34.push (.cells g41.toArray 49)) fun x42 h43 =>
 onPtr (.pointer i0) fun a44 =>
 szIs (Value.cells x42).size 1 (
 st h43 (a44.add 0) (Value.cells x42) fun h45 =>
 K (.tuple #[(.int .i64 i1), (.int .i64 0)]) h45)))))))
theorem L60_run (i0 : Option Addr) (i1 : Int) (i2 : Int) (h : Hp) (K : Value → Hp → Prop) (hL : L60 i0 i1 i2 h K) : Run tc.P 60 #[(.pointer i0), (.int .i64 i1), (.int .i64 i2)] h K :=
  run_of_cwp tc_good Try.func60 { loops := [(5, [(1, .ti .i64)])], cuts := [], draws := [] } _ _ _ ((show cwpF tc { loops := [(5, [(1, .ti .i64)])], cuts := [], draws := [] } Try.f60 #[(.pointer i0), (.int .i64 i1), (.int .i64 i2)] h K = L60 i0 i1 i2 h K from by kernel_rfl) ▸ hL)

def L61 (i0 : Option Addr) (i1 : Int) (h : Hp) (K : Value → Hp → Prop) : Prop :=
 Run tc.P 73 #[(.pointer i0), (.int .i64 i1)] h fun x1 h2 =>
 onI .i64 x1 fun n3 =>
 bsel (decide (n3 < 0)) (K (.int .i64 100) h2)
 (onPtr (.pointer i0) fun a4 =>
 onPtr (.pointer i0) fun a5 =>
 ldS h2 (a4.add 0) fun p6 l7 c8 =>
 ldS h2 (a5.add 0) fun p9 l10 c11 =>
 ((0 : Int) ≤ n3 ∧ n3 < ((l10 : Nat) : Int)) ∧
 onO p9 fun a12 =>
 ldI h2 ((a12.add (Int.toNat n3 * 3)).add 2) .i64 fun n13 =>
 ((0 : Int) ≤ n3 ∧ n3 < ((l7 : Nat) : Int)) ∧
 onO p6 fun a14 =>
 st h2 ((a14.add (Int.toNat n3 * 3)).add 2) #[(.int .i64 (IntKind.i64.wrap (n13 + 1)))] fun h15 =>
 K (.int .i64 0) h15)
theorem L61_run (i0 : Option Addr) (i1 : Int) (h : Hp) (K : Value → Hp → Prop) (hL : L61 i0 i1 h K) : Run tc.P 61 #[(.pointer i0), (.int .i64 i1)] h K :=
  run_of_cwp tc_good Try.func61 { loops := [], cuts := [], draws := [(4, [0, 1, 2, 4, 5, 6, 7, 9, 3, 8, 10, 11, 12, 13, 14, 15, 16], [])] } _ _ _ ((show cwpF tc { loops := [], cuts := [], draws := [(4, [0, 1, 2, 4, 5, 6, 7, 9, 3, 8, 10, 11, 12, 13, 14, 15, 16], [])] } Try.f61 #[(.pointer i0), (.int .i64 i1)] h K = L61 i0 i1 h K from by kernel_rfl) ▸ hL)

def L62 (i0 : Option Addr) (i1 : Int) (h : Hp) (K : Value → Hp → Prop) : Prop :=
 onPtr (.pointer i0) fun a1 =>
 ldP h (a1.add 1) fun p2 =>
 Run tc.P 39 #[(.pointer p2), (.int .i64 i1)] h fun x3 h4 =>
 onTup 0 x3 fun x5 =>
 onAgg x5 fun g6 =>
 onTup 1 x3 fun x7 =>
 onB x7 fun b8 =>
 szIs g6.size 3 (
 st (h4.push (.cells (zeroOf tc.P 49) 49)) (Addr.mk h4.size 0 none) g6 fun h9 =>
 bsel (!b8) (K (.tuple #[(.bool false), (.int .i64 100)]) h9)
 (ldI h9 ((Addr.mk h4.size 0 none).add 2) .i64 fun n10 =>
 st h9 ((Addr.mk h4.size 0 none).add 2) #[(.int .i64 (IntKind.i64.wrap (n10 - 1)))] fun h11 =>
 ldI h11 ((Addr.mk h4.size 0 none).add 2) .i64 fun n12 =>
 bsel (decide (n12 = 0)) (onPtr (.pointer i0) fun a13 =>
 ldP h11 (a13.add 1) fun p14 =>
 Run tc.P 74 #[(.pointer p14), (.int .i64 i1)] h11 fun x15 h16 =>
 K (.tuple #[(.bool true), (.int .i64 0)]) h16)
 (onPtr (.pointer i0) fun a17 =>
 ldP h11 (a17.add 1) fun p18 =>
 ldR h11 (Addr.mk h4.size 0 none) 3 fun g19 =>
 Run tc.P 34 #[(.pointer p18), (.int .i64 i1), (.agg g19)] h11 fun x20 h21 =>
 onB x20 fun b22 =>
 K (.tuple #[(.bool false), (.int .i64 0)]) h21)))
theorem L62_run (i0 : Option Addr) (i1 : Int) (h : Hp) (K : Value → Hp → Prop) (hL : L62 i0 i1 h K) : Run tc.P 62 #[(.pointer i0), (.int .i64 i1)] h K :=
  run_of_cwp tc_good Try.func62 { loops := [], cuts := [], draws := [(8, [0, 1, 2, 4, 3, 5, 6], [])] } _ _ _ ((show cwpF tc { loops := [], cuts := [], draws := [(8, [0, 1, 2, 4, 3, 5, 6], [])] } Try.f62 #[(.pointer i0), (.int .i64 i1)] h K = L62 i0 i1 h K from by kernel_rfl) ▸ hL)

def L63 (i0 : Option Addr) (i1 : Int) (h : Hp) (K : Value → Hp → Prop) : Prop :=
 Run tc.P 73 #[(.pointer i0), (.int .i64 i1)] h fun x1 h2 =>
 onI .i64 x1 fun n3 =>
 bsel (decide (n3 < 0)) (K (.tuple #[(.bool false), (.int .i64 100)]) h2)
 (onPtr (.pointer i0) fun a4 =>
 ldS h2 (a4.add 0) fun p5 l6 c7 =>
 ((0 : Int) ≤ n3 ∧ n3 < ((l6 : Nat) : Int)) ∧
 onO p5 fun a8 =>
 ldI h2 ((a8.add (Int.toNat n3 * 3)).add 2) .i64 fun n9 =>
 bsel (decide (1 < n9)) (onPtr (.pointer i0) fun a10 =>
 onPtr (.pointer i0) fun a11 =>
 ldS h2 (a10.add 0) fun p12 l13 c14 =>
 ldS h2 (a11.add 0) fun p15 l16 c17 =>
 ((0 : Int) ≤ n3 ∧ n3 < ((l16 : Nat) : Int)) ∧
 onO p15 fun a18 =>
 ldI h2 ((a18.add (Int.toNat n3 * 3)).add 2) .i64 fun n19 =>
 ((0 : Int) ≤ n3 ∧ n3 < ((l13 : Nat) : Int)) ∧
 onO p12 fun a20 =>
 st h2 ((a20.add (Int.toNat n3 * 3)).add 2) #[(.int .i64 (IntKind.i64.wrap (n19 - 1)))] fun h21 =>
 K (.tuple #[(.bool false), (.int .i64 0)]) h21)
 (LoopI (σ := (Option Addr × Nat × Nat) × (Int) × Unit) (fun st22 h23 J24 =>
 onPtr (.pointer i0) fun a25 =>
 ldS h23 (a25.add 0) fun p26 l27 c28 =>
 bsel (decide (st22.2.1 < ((l27 : Nat) : Int))) (bsel (!decide (st22.2.1 = n3)) (onPtr (.pointer i0) fun a29 =>
 ldS h23 (a29.add 0) fun p30 l31 c32 =>
 ((0 : Int) ≤ st22.2.1 ∧ st22.2.1 < ((l31 : Nat) : Int)) ∧
 onO p30 fun a33 =>
 ldR h23 (a33.add (Int.toNat st22.2.1 * 3)) 3 fun g34 =>
 onO (fillL (zerosN (zeroOf tc.P 49) (1 * 3)).toList [(0, 3, (.agg g34))]) fun g35 =>
 apnd 49 3 24 (zeroOf tc.P 49) (.slice st22.1.1 st22.1.2.1 st22.1.2.2) (.slice (some (Addr.mk h23.size 0 none)) 1 1) (h23.push (.cells g35.toArray 49)) fun x36 h37 =>
 onSl x36 fun p38 l39 c40 =>
 J24 ((p38, l39, c40), (IntKind.i64.wrap (st22.2.1 + 1)), ()) h37)
 (J24 ((st22.1.1, st22.1.2.1, st22.1.2.2), (IntKind.i64.wrap (st22.2.1 + 1)), ()) h23))
 (onPtr (.pointer i0) fun a41 =>
 st h23 (a41.add 0) #[(.slice st22.1.1 st22.1.2.1 st22.1.2.2)] fun h42 =>
 K (.tuple #[(.bool true), (.int .i64 0)]) h42))
 ((none, 0, 0), 0, ()) h2))
theorem L63_run (i0 : Option Addr) (i1 : Int) (h : Hp) (K : Value → Hp → Prop) (hL : L63 i0 i1 h K) : Run tc.P 63 #[(.pointer i0), (.int .i64 i1)] h K :=
  run_of_cwp tc_good Try.func63 { loops := [(9, [(7, .ts), (8, .ti .i64)])], cuts := [], draws := [(5, [0, 1, 2, 4, 5, 6, 7, 9, 3, 8, 10, 11, 12, 13, 14, 15, 16], [])] } _ _ _ ((show cwpF tc { loops := [(9, [(7, .ts), (8, .ti .i64)])], cuts := [], draws := [(5, [0, 1, 2, 4, 5, 6, 7, 9, 3, 8, 10, 11, 12, 13, 14, 15, 16], [])] } Try.f63 #[(.pointer i0), (.int .i64 i1)] h K = L63 i0 i1 h K from by kernel_rfl) ▸ hL)

def L64 (i0 : Option Addr) (i1 : Int) (h : Hp) (K : Value → Hp → Prop) : Prop :=
 Run tc.P 73 #[(.pointer i0), (.int .i64 i1)] h fun x1 h2 =>
 onI .i64 x1 fun n3 =>
 bsel (decide (n3 < 0)) (K (.tuple #[(.int .i64 0), (.int .i64 100)]) h2)
 (onPtr (.pointer i0) fun a4 =>
 ldS h2 (a4.add 0) fun p5 l6 c7 =>
 ((0 : Int) ≤ n3 ∧ n3 < ((l6 : Nat) : Int)) ∧
 onO p5 fun a8 =>
 ldI h2 ((a8.add (Int.toNat n3 * 3)).add 1) .i64 fun n9 =>
 K (.tuple #[(.int .i64 n9), (.int .i64 0)]) h2)
theorem L64_run (i0 : Option Addr) (i1 : Int) (h : Hp) (K : Value → Hp → Prop) (hL : L64 i0 i1 h K) : Run tc.P 64 #[(.pointer i0), (.int .i64 i1)] h K :=
  run_of_cwp tc_good Try.func64 { loops := [], cuts := [], draws := [] } _ _ _ ((show cwpF tc { loops := [], cuts := [], draws := [] } Try.f64 #[(.pointer i0), (.int .i64 i1)] h K = L64 i0 i1 h K from by kernel_rfl) ▸ hL)

def L65 (i0 : Option Addr) (h : Hp) (K : Value → Hp → Prop) : Prop :=
 LoopI (σ := (Option Addr × Nat × Nat) × (Int) × Unit) (fun st1 h2 J3 =>
 bsel (decide (st1.2.1 < 32)) (Run tc.P 73 #[(.pointer i0), (.int .i64 st1.2.1)] h2 fun x4 h5 =>
 onI .i64 x4 fun n6 =>
 bsel (decide (0 ≤ n6)) (onPtr (.pointer i0) fun a7 =>
 ldS h5 (a7.add 0) fun p8 l9 c10 =>
 ((0 : Int) ≤ n6 ∧ n6 < ((l9 : Nat) : Int)) ∧
 onO p8 fun a11 =>
 ldR h5 (a11.add (Int.toNat n6 * 3)) 3 fun g12 =>
 onO (fillL (zerosN (zeroOf tc.P 49) (1 * 3)).toList [(0, 3, (.agg g12))]) fun g13 =>
 apnd 49 3 24 (zeroOf tc.P 49) (.slice st1.1.1 st1.1.2.1 st1.1.2.2) (.slice (some (Addr.mk h5.size 0 none)) 1 1) (h5.push (.cells g13.toArray 49)) fun x14 h15 =>
 onSl x14 fun p16 l17 c18 =>
 J3 ((p16, l17, c18), (IntKind.i64.wrap (st1.2.1 + 1)), ()) h15)
 (J3 ((st1.1.1, st1.1.2.1, st1.1.2.2), (IntKind.i64.wrap (st1.2.1 + 1)), ()) h5))
 (K (.slice st1.1.1 st1.1.2.1 st1.1.2.2) h2))
 ((none, 0, 0), 0, ()) h
theorem L65_run (i0 : Option Addr) (h : Hp) (K : Value → Hp → Prop) (hL : L65 i0 h K) : Run tc.P 65 #[(.pointer i0)] h K :=
  run_of_cwp tc_good Try.func65 { loops := [(3, [(3, .ts), (4, .ti .i64)])], cuts := [], draws := [] } _ _ _ ((show cwpF tc { loops := [(3, [(3, .ts), (4, .ti .i64)])], cuts := [], draws := [] } Try.f65 #[(.pointer i0)] h K = L65 i0 h K from by kernel_rfl) ▸ hL)

def L66 (i0 : Option Addr) (l0 c0 : Nat) (i1 : Option Addr) (l1 c1 : Nat) (h : Hp) (K : Value → Hp → Prop) : Prop :=
 bsel (!decide (((l0 : Nat) : Int) = ((l1 : Nat) : Int))) (K (.bool false) h)
 (LoopI (σ := (Int) × Unit) (fun st1 h2 J3 =>
 bsel (decide (st1.1 < ((l0 : Nat) : Int))) (((0 : Int) ≤ st1.1 ∧ st1.1 < ((l0 : Nat) : Int)) ∧
 onO i0 fun a4 =>
 ((0 : Int) ≤ st1.1 ∧ st1.1 < ((l1 : Nat) : Int)) ∧
 onO i1 fun a5 =>
 ldR h2 (a4.add (Int.toNat st1.1 * 3)) 3 fun g6 =>
 ldR h2 (a5.add (Int.toNat st1.1 * 3)) 3 fun g7 =>
 g6.size = 3 ∧ g7.size = 3 ∧ ∃ r8, eqInts g6.toList g7.toList = some r8 ∧ (bsel (!r8) (K (.bool false) h2)
 (J3 ((IntKind.i64.wrap (st1.1 + 1)), ()) h2)))
 (K (.bool true) h2))
 (0, ()) h)
theorem L66_run (i0 : Option Addr) (l0 c0 : Nat) (i1 : Option Addr) (l1 c1 : Nat) (h : Hp) (K : Value → Hp → Prop) (hL : L66 i0 l0 c0 i1 l1 c1 h K) : Run tc.P 66 #[(.slice i0 l0 c0), (.slice i1 l1 c1)] h K :=
  run_of_cwp tc_good Try.func66 { loops := [(4, [(5, .ti .i64)])], cuts := [], draws := [(6, [0, 1, 2, 4, 5, 6, 3, 7, 8], [])] } _ _ _ ((show cwpF tc { loops := [(4, [(5, .ti .i64)])], cuts := [], draws := [(6, [0, 1, 2, 4, 5, 6, 3, 7, 8], [])] } Try.f66 #[(.slice i0 l0 c0), (.slice i1 l1 c1)] h K = L66 i0 l0 c0 i1 l1 c1 h K from by kernel_rfl) ▸ hL)

def L67 (i0 : Option Addr) (i1 : Int) (i2 : Int) (h : Hp) (K : Value → Hp → Prop) : Prop :=
 Run tc.P 73 #[(.pointer i0), (.int .i64 i1)] h fun x1 h2 =>
 onI .i64 x1 fun n3 =>
 bsel (decide (n3 < 0)) (K (.tuple #[(.int .i64 0), (.int .i64 100)]) h2)
 (bsel (decide (i2 < 0)) (K (.tuple #[(.int .i64 0), (.int .i64 40)]) h2)
 (bsel (decide (32 ≤ i2)) (K (.tuple #[(.int .i64 0), (.int .i64 40)]) h2)
 (K (.tuple #[(.int .i64 (IntKind.i64.wrap ((IntKind.i64.wrap (i1 * 32)) + i2))), (.int .i64 0)]) h2)))
theorem L67_run (i0 : Option Addr) (i1 : Int) (i2 : Int) (h : Hp) (K : Value → Hp → Prop) (hL : L67 i0 i1 i2 h K) : Run tc.P 67 #[(.pointer i0), (.int .i64 i1), (.int .i64 i2)] h K :=
  run_of_cwp tc_good Try.func67 { loops := [], cuts := [], draws := [] } _ _ _ ((show cwpF tc { loops := [], cuts := [], draws := [] } Try.f67 #[(.pointer i0), (.int .i64 i1), (.int .i64 i2)] h K = L67 i0 i1 i2 h K from by kernel_rfl) ▸ hL)

def L68 (i0 : Option Addr) (i1 : Int) (h : Hp) (K : Value → Hp → Prop) : Prop :=
 Run tc.P 71 #[(.int .i64 i1)] h fun x1 h2 =>
 onB x1 fun b3 =>
 bsel (!b3) (K (.tuple #[(.slice none 0 0), (.int .i64 40)]) h2)
 (onPtr (.pointer i0) fun a4 =>
 ldB h2 (a4.add 3) fun b5 =>
 bsel b5 (K (.tuple #[(.slice none 0 0), (.int .i64 42)]) h2)
 (mkSl 5 1 1 (zeroOf tc.P 5) (.int .i64 128) (.int .i64 128) h2 fun x6 h7 =>
 onPtr (.pointer i0) fun a8 =>
 ldS h7 (a8.add 0) fun p9 l10 c11 =>
 Run tc.P 72 #[x6, (.slice p9 l10 c11), (.int .i64 i1)] h7 fun x12 h13 =>
 onPtr (.pointer i0) fun a14 =>
 ldS h13 (a14.add 1) fun p15 l16 c17 =>
 Run tc.P 72 #[x6, (.slice p15 l16 c17), (.int .i64 i1)] h13 fun x18 h19 =>
 K (.tuple #[x6, (.int .i64 0)]) h19))
theorem L68_run (i0 : Option Addr) (i1 : Int) (h : Hp) (K : Value → Hp → Prop) (hL : L68 i0 i1 h K) : Run tc.P 68 #[(.pointer i0), (.int .i64 i1)] h K :=
  run_of_cwp tc_good Try.func68 { loops := [], cuts := [], draws := [] } _ _ _ ((show cwpF tc { loops := [], cuts := [], draws := [] } Try.f68 #[(.pointer i0), (.int .i64 i1)] h K = L68 i0 i1 h K from by kernel_rfl) ▸ hL)

def L69 (i0 : Option Addr) (i1 : Int) (i2 : Option Addr) (l2 c2 : Nat) (h : Hp) (K : Value → Hp → Prop) : Prop :=
 Run tc.P 71 #[(.int .i64 i1)] h fun x1 h2 =>
 onB x1 fun b3 =>
 bsel (!b3) (K (.int .i64 40) h2)
 (bsel (!decide (((l2 : Nat) : Int) = 128)) (K (.int .i64 41) h2)
 (Run tc.P 75 #[(.pointer i0)] h2 fun x4 h5 =>
 onB x4 fun b6 =>
 bsel (!b6) (K (.int .i64 42) h5)
 (onPtr (.pointer i0) fun a7 =>
 ldS h5 (a7.add 1) fun p8 l9 c10 =>
 Run tc.P 76 #[(.slice i2 l2 c2)] h5 fun x11 h12 =>
 onSl x11 fun p13 l14 c15 =>
 Keep h5 h12 ∧
 onO (fillL (zeroOf tc.P 116).toList [(0, 1, (.int .i64 i1)), (2, 1, (.slice p13 l14 c15))]) fun g16 =>
 onO (fillL (zerosN (zeroOf tc.P 116) (1 * 3)).toList [(0, 3, (.agg g16.toArray))]) fun g17 =>
 Keep h5 (h12.push (.cells g17.toArray 116)) ∧
 apnd 116 3 40 (zeroOf tc.P 116) (.slice p8 l9 c10) (.slice (some (Addr.mk h12.size 0 none)) 1 1) (h12.push (.cells g17.toArray 116)) fun x18 h19 =>
 onPtr (.pointer i0) fun a20 =>
 szIs (Value.cells x18).size 1 (
 st h19 (a20.add 1) (Value.cells x18) fun h21 =>
 K (.int .i64 0) h21))))
theorem L69_run (i0 : Option Addr) (i1 : Int) (i2 : Option Addr) (l2 c2 : Nat) (h : Hp) (K : Value → Hp → Prop) (hL : L69 i0 i1 i2 l2 c2 h K) : Run tc.P 69 #[(.pointer i0), (.int .i64 i1), (.slice i2 l2 c2)] h K :=
  run_of_cwp tc_good Try.func69 { loops := [], cuts := [], draws := [(7, [0, 1, 2, 3, 5, 6, 4, 7, 8, 9, 10, 11, 12, 13], [7, 9])] } _ _ _ ((show cwpF tc { loops := [], cuts := [], draws := [(7, [0, 1, 2, 3, 5, 6, 4, 7, 8, 9, 10, 11, 12, 13], [7, 9])] } Try.f69 #[(.pointer i0), (.int .i64 i1), (.slice i2 l2 c2)] h K = L69 i0 i1 i2 l2 c2 h K from by kernel_rfl) ▸ hL)

def L70 (i0 : Option Addr) (h : Hp) (K : Value → Hp → Prop) : Prop :=
 Run tc.P 75 #[(.pointer i0)] h fun x1 h2 =>
 onB x1 fun b3 =>
 bsel (!b3) (K (.int .i64 42) h2)
 (onPtr (.pointer i0) fun a4 =>
 onPtr (.pointer i0) fun a5 =>
 ldS h2 (a4.add 0) fun p6 l7 c8 =>
 ldS h2 (a5.add 1) fun p9 l10 c11 =>
 apnd 116 3 40 (zeroOf tc.P 116) (.slice p6 l7 c8) (.slice p9 l10 c11) h2 fun x12 h13 =>
 onPtr (.pointer i0) fun a14 =>
 szIs (Value.cells x12).size 1 (
 st h13 (a14.add 0) (Value.cells x12) fun h15 =>
 onPtr (.pointer i0) fun a16 =>
 st h15 (a16.add 1) #[(.slice none 0 0)] fun h17 =>
 K (.int .i64 0) h17))
theorem L70_run (i0 : Option Addr) (h : Hp) (K : Value → Hp → Prop) (hL : L70 i0 h K) : Run tc.P 70 #[(.pointer i0)] h K :=
  run_of_cwp tc_good Try.func70 { loops := [], cuts := [], draws := [(3, [0, 1, 2, 3, 5, 6, 7, 4, 8, 9, 10, 11, 12], [])] } _ _ _ ((show cwpF tc { loops := [], cuts := [], draws := [(3, [0, 1, 2, 3, 5, 6, 7, 4, 8, 9, 10, 11, 12], [])] } Try.f70 #[(.pointer i0)] h K = L70 i0 h K from by kernel_rfl) ▸ hL)

def L71 (i0 : Int) (h : Hp) (K : Value → Hp → Prop) : Prop :=
 bsel (decide (0 ≤ i0)) (K (.bool (decide (i0 < 1024))) h)
 (K (.bool false) h)
theorem L71_run (i0 : Int) (h : Hp) (K : Value → Hp → Prop) (hL : L71 i0 h K) : Run tc.P 71 #[(.int .i64 i0)] h K :=
  run_of_cwp tc_good Try.func71 { loops := [], cuts := [], draws := [] } _ _ _ ((show cwpF tc { loops := [], cuts := [], draws := [] } Try.f71 #[(.int .i64 i0)] h K = L71 i0 h K from by kernel_rfl) ▸ hL)

def L72 (i0 : Option Addr) (l0 c0 : Nat) (i1 : Option Addr) (l1 c1 : Nat) (i2 : Int) (h : Hp) (K : Value → Hp → Prop) : Prop :=
 LoopI (σ := (Int) × Unit) (fun st1 h2 J3 =>
 bsel (decide (st1.1 < ((l1 : Nat) : Int))) (((0 : Int) ≤ st1.1 ∧ st1.1 < ((l1 : Nat) : Int)) ∧
 onO i1 fun a4 =>
 ldI h2 ((a4.add (Int.toNat st1.1 * 3)).add 0) .i64 fun n5 =>
 bsel (!decide (n5 = i2)) (J3 ((IntKind.i64.wrap (st1.1 + 1)), ()) h2)
 (LoopI (σ := (Int) × Unit) (fun st6 h7 J8 =>
 ((0 : Int) ≤ st1.1 ∧ st1.1 < ((l1 : Nat) : Int)) ∧
 onO i1 fun a9 =>
 ldS h7 ((a9.add (Int.toNat st1.1 * 3)).add 2) fun p10 l11 c12 =>
 bsel (decide (st6.1 < ((l11 : Nat) : Int))) (((0 : Int) ≤ st1.1 ∧ st1.1 < ((l1 : Nat) : Int)) ∧
 onO i1 fun a13 =>
 ((0 : Int) ≤ st1.1 ∧ st1.1 < ((l1 : Nat) : Int)) ∧
 onO i1 fun a14 =>
 ldI h7 ((a13.add (Int.toNat st1.1 * 3)).add 1) .i64 fun n15 =>
 ldS h7 ((a14.add (Int.toNat st1.1 * 3)).add 2) fun p16 l17 c18 =>
 ((0 : Int) ≤ st6.1 ∧ st6.1 < ((l17 : Nat) : Int)) ∧
 onO p16 fun a19 =>
 ldI h7 (a19.add (Int.toNat st6.1 * 1)) .u8 fun n20 =>
 ((0 : Int) ≤ (IntKind.i64.wrap (n15 + st6.1)) ∧ (IntKind.i64.wrap (n15 + st6.1)) < ((l0 : Nat) : Int)) ∧
 onO i0 fun a21 =>
 st h7 (a21.add (Int.toNat (IntKind.i64.wrap (n15 + st6.1)) * 1)) #[(.int .u8 n20)] fun h22 =>
 J8 ((IntKind.i64.wrap (st6.1 + 1)), ()) h22)
 (J3 ((IntKind.i64.wrap (st1.1 + 1)), ()) h7))
 (0, ()) h2))
 (K (.tuple #[]) h2))
 (0, ()) h
theorem L72_run (i0 : Option Addr) (l0 c0 : Nat) (i1 : Option Addr) (l1 c1 : Nat) (i2 : Int) (h : Hp) (K : Value → Hp → Prop) (hL : L72 i0 l0 c0 i1 l1 c1 i2 h K) : Run tc.P 72 #[(.slice i0 l0 c0), (.slice i1 l1 c1), (.int .i64 i2)] h K :=
  run_of_cwp tc_good Try.func72 { loops := [(1, [(6, .ti .i64)]), (5, [(7, .ti .i64)])], cuts := [], draws := [(7, [0, 1, 2, 3, 4, 6, 8, 9, 10, 11, 13, 5, 7, 12, 14, 15, 16, 17], [])] } _ _ _ ((show cwpF tc { loops := [(1, [(6, .ti .i64)]), (5, [(7, .ti .i64)])], cuts := [], draws := [(7, [0, 1, 2, 3, 4, 6, 8, 9, 10, 11, 13, 5, 7, 12, 14, 15, 16, 17], [])] } Try.f72 #[(.slice i0 l0 c0), (.slice i1 l1 c1), (.int .i64 i2)] h K = L72 i0 l0 c0 i1 l1 c1 i2 h K from by kernel_rfl) ▸ hL)

def L73 (i0 : Option Addr) (i1 : Int) (h : Hp) (K : Value → Hp → Prop) : Prop :=
 LoopI (σ := (Int) × Unit) (fun st1 h2 J3 =>
 onPtr (.pointer i0) fun a4 =>
 ldS h2 (a4.add 0) fun p5 l6 c7 =>
 bsel (decide (st1.1 < ((l6 : Nat) : Int))) (onPtr (.pointer i0) fun a8 =>
 ldS h2 (a8.add 0) fun p9 l10 c11 =>
 ((0 : Int) ≤ st1.1 ∧ st1.1 < ((l10 : Nat) : Int)) ∧
 onO p9 fun a12 =>
 ldI h2 ((a12.add (Int.toNat st1.1 * 3)).add 0) .i64 fun n13 =>
 bsel (decide (n13 = i1)) (K (.int .i64 st1.1) h2)
 (J3 ((IntKind.i64.wrap (st1.1 + 1)), ()) h2))
 (K (.int .i64 (-1)) h2))
 (0, ()) h
theorem L73_run (i0 : Option Addr) (i1 : Int) (h : Hp) (K : Value → Hp → Prop) (hL : L73 i0 i1 h K) : Run tc.P 73 #[(.pointer i0), (.int .i64 i1)] h K :=
  run_of_cwp tc_good Try.func73 { loops := [(2, [(5, .ti .i64)])], cuts := [], draws := [] } _ _ _ ((show cwpF tc { loops := [(2, [(5, .ti .i64)])], cuts := [], draws := [] } Try.f73 #[(.pointer i0), (.int .i64 i1)] h K = L73 i0 i1 h K from by kernel_rfl) ▸ hL)

def L74 (i0 : Option Addr) (i1 : Int) (h : Hp) (K : Value → Hp → Prop) : Prop :=
 Run tc.P 56 #[(.pointer i0), (.int .i64 i1)] ((h.push (.cells (zeroOf tc.P 49) 49)).push (.cells (zeroOf tc.P 49) 49)) fun x1 h2 =>
 onB x1 fun b3 =>
 bsel (!b3) (ldR h2 (Addr.mk (h.push (.cells (zeroOf tc.P 49) 49)).size 0 none) 3 fun g4 =>
 szIs g4.size 3 (
 st h2 (Addr.mk h.size 0 none) g4 fun h5 =>
 ldR h5 (Addr.mk h.size 0 none) 3 fun g6 =>
 K (.tuple #[(.agg g6), (.bool false)]) h5))
 (onPtr (.pointer i0) fun a7 =>
 ldS h2 (a7.add 0) fun p8 l9 c10 =>
 ((0 : Int) ≤ i1 ∧ i1 < ((l9 : Nat) : Int)) ∧
 onO p8 fun a11 =>
 ldR h2 ((a11.add (Int.toNat i1 * 4)).add 1) 3 fun g12 =>
 szIs g12.size 3 (
 st (h2.push (.cells (zeroOf tc.P 49) 49)) (Addr.mk h2.size 0 none) g12 fun h13 =>
 onPtr (.pointer i0) fun a14 =>
 ldS h13 (a14.add 0) fun p15 l16 c17 =>
 ((0 : Int) ≤ i1 ∧ i1 < ((l16 : Nat) : Int)) ∧
 onO p15 fun a18 =>
 szIs ((zeroOf tc.P 108).toList.toArray).size 4 (
 st h13 (a18.add (Int.toNat i1 * 4)) ((zeroOf tc.P 108).toList.toArray) fun h19 =>
 onPtr (.pointer i0) fun a20 =>
 ldI h19 (a20.add 1) .i64 fun n21 =>
 onPtr (.pointer i0) fun a22 =>
 st h19 (a22.add 1) #[(.int .i64 (IntKind.i64.wrap (n21 - 1)))] fun h23 =>
 onPtr (.pointer i0) fun a24 =>
 ldI h23 (a24.add 2) .i64 fun n25 =>
 onPtr (.pointer i0) fun a26 =>
 st h23 (a26.add 2) #[(.int .i64 (if i1 < n25 then i1 else n25))] fun h27 =>
 ldR h27 (Addr.mk h2.size 0 none) 3 fun g28 =>
 szIs g28.size 3 (
 st h27 (Addr.mk h.size 0 none) g28 fun h29 =>
 ldR h29 (Addr.mk h.size 0 none) 3 fun g30 =>
 K (.tuple #[(.agg g30), (.bool true)]) h29))))
theorem L74_run (i0 : Option Addr) (i1 : Int) (h : Hp) (K : Value → Hp → Prop) (hL : L74 i0 i1 h K) : Run tc.P 74 #[(.pointer i0), (.int .i64 i1)] h K :=
  run_of_cwp tc_good Try.func74 { loops := [], cuts := [], draws := [] } _ _ _ ((show cwpF tc { loops := [], cuts := [], draws := [] } Try.f74 #[(.pointer i0), (.int .i64 i1)] h K = L74 i0 i1 h K from by kernel_rfl) ▸ hL)

def L75 (i0 : Option Addr) (h : Hp) (K : Value → Hp → Prop) : Prop :=
 onPtr (.pointer i0) fun a1 =>
 ldB h (a1.add 3) fun b2 =>
 bsel b2 (K (.bool false) h)
 (onPtr (.pointer i0) fun a3 =>
 ldI h (a3.add 2) .i64 fun n4 =>
 bsel (decide (n4 = 0)) (onPtr (.pointer i0) fun a5 =>
 st h (a5.add 3) #[(.bool true)] fun h6 =>
 K (.bool false) h6)
 (onPtr (.pointer i0) fun a7 =>
 ldI h (a7.add 2) .i64 fun n8 =>
 bsel (decide (0 < n8)) (onPtr (.pointer i0) fun a9 =>
 ldI h (a9.add 2) .i64 fun n10 =>
 onPtr (.pointer i0) fun a11 =>
 st h (a11.add 2) #[(.int .i64 (IntKind.i64.wrap (n10 - 1)))] fun h12 =>
 onPtr (.pointer i0) fun a13 =>
 ldI h12 (a13.add 4) .i64 fun n14 =>
 onPtr (.pointer i0) fun a15 =>
 st h12 (a15.add 4) #[(.int .i64 (IntKind.i64.wrap (n14 + 1)))] fun h16 =>
 K (.bool true) h16)
 (onPtr (.pointer i0) fun a17 =>
 ldI h (a17.add 4) .i64 fun n18 =>
 onPtr (.pointer i0) fun a19 =>
 st h (a19.add 4) #[(.int .i64 (IntKind.i64.wrap (n18 + 1)))] fun h20 =>
 K (.bool true) h20)))
theorem L75_run (i0 : Option Addr) (h : Hp) (K : Value → Hp → Prop) (hL : L75 i0 h K) : Run tc.P 75 #[(.pointer i0)] h K :=
  run_of_cwp tc_good Try.func75 { loops := [], cuts := [], draws := [] } _ _ _ ((show cwpF tc { loops := [], cuts := [], draws := [] } Try.f75 #[(.pointer i0)] h K = L75 i0 h K from by kernel_rfl) ▸ hL)

def L76 (i0 : Option Addr) (l0 c0 : Nat) (h : Hp) (K : Value → Hp → Prop) : Prop :=
 apnd 5 1 1 (zeroOf tc.P 5) (.slice none 0 0) (.slice i0 l0 c0) h fun x1 h2 =>
 K x1 h2
theorem L76_run (i0 : Option Addr) (l0 c0 : Nat) (h : Hp) (K : Value → Hp → Prop) (hL : L76 i0 l0 c0 h K) : Run tc.P 76 #[(.slice i0 l0 c0)] h K :=
  run_of_cwp tc_good Try.func76 { loops := [], cuts := [], draws := [] } _ _ _ ((show cwpF tc { loops := [], cuts := [], draws := [] } Try.f76 #[(.slice i0 l0 c0)] h K = L76 i0 l0 c0 h K from by kernel_rfl) ▸ hL)

def L92 (i0 : Option Addr) (h : Hp) (K : Value → Hp → Prop) : Prop :=
 Run tc.P 54 #[(.pointer i0)] h fun x1 h2 =>
 onB x1 fun b3 =>
 bsel (!b3) (K (.int .i64 42) h2)
 (Run tc.P 40 #[(.pointer i0), (.func (.func 93) #[] #[])] h2 fun x4 h5 =>
 onI .i64 x4 fun n6 =>
 K (.int .i64 0) h5)
theorem L92_run (i0 : Option Addr) (h : Hp) (K : Value → Hp → Prop) (hL : L92 i0 h K) : Run tc.P 92 #[(.pointer i0)] h K :=
  run_of_cwp tc_good Try.func92 { loops := [], cuts := [], draws := [] } _ _ _ ((show cwpF tc { loops := [], cuts := [], draws := [] } Try.f92 #[(.pointer i0)] h K = L92 i0 h K from by kernel_rfl) ▸ hL)

def L93 (i0 : Int) (h : Hp) (K : Value → Hp → Prop) : Prop :=
 K (.bool true) h
theorem L93_run (i0 : Int) (h : Hp) (K : Value → Hp → Prop) (hL : L93 i0 h K) : Run tc.P 93 #[(.int .i64 i0)] h K :=
  run_of_cwp tc_good Try.func93 { loops := [], cuts := [], draws := [] } _ _ _ ((show cwpF tc { loops := [], cuts := [], draws := [] } Try.f93 #[(.int .i64 i0)] h K = L93 i0 h K from by kernel_rfl) ▸ hL)

end Go.Proofs.Ytfijmoofdafoiaa
