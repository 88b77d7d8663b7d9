/- A part of what the last text of this claim leans on. -/
import Derived.Test.YtbiilejgfihohaaGreatBackF
import Derived.Test.YtbiilejgfihohaaGreatProg
import Derived.ChangeSlices
import Derived.ChangeArms
import Derived.Deep.Slices
import Derived.Deep.DeepHandedRow
import Derived.Lib.LaidTab
import Derived.Carry
import Derived.SizedLaws
import Derived.Test.YtbiilejgfihohaaGreatRows
import Derived.WalkKit
import Derived.ProofKit
import Derived.OpenShut
set_option linter.all false
set_option maxHeartbeats 4000000
set_option maxRecDepth 100000
set_option autoImplicit false
namespace Go.Proofs.YtbiilejgfihohaaGreat
open Go Go.Cu
theorem mix_eqf : Tryz.prog.follows .mixedOrders = true := by kernel_rfl
noncomputable def q17McodeBack.body : Code := (Tryz.f7.body).getD .skip
def q17McodeBack.j4 (R : EPq)  (k1 : (Sl × (Option Addr) × Int × Int × Sl × Int × Unit) → WPq) (k2 : (Sl × (Option Addr) × Int × Int × Sl × Int × Sl × Sl × Sl × Sl × Sl × Int × Unit) → WPq) (v2 : Sl) (v7 : (Option Addr)) (v8 : Int) (v9 : Int) (v12 : Sl) (v13 : Int) (v14 : Sl) (v15 : Sl) (v16 : Sl) (v17 : Sl) (v18 : Sl) (v19 : Int) (w : World) : Prop :=
  k2 (v2, v7, v8, v9, v12, v13, v14, v15, v16, v17, v18, (IntKind.wrap .i64 (v19 + 1)), ()) w
def q17McodeBack.j7 (R : EPq)  (k1 : (Sl × (Option Addr) × Int × Int × Sl × Int × Unit) → WPq) (k3 : (Sl × (Option Addr) × Int × Int × Sl × Int × Sl × Sl × Sl × Int × Int × Unit) → WPq) (v2 : Sl) (v7 : (Option Addr)) (v8 : Int) (v9 : Int) (v12 : Sl) (v13 : Int) (v22 : Sl) (v23 : Sl) (v24 : Sl) (v25 : Int) (v26 : Int) (w : World) : Prop :=
  k3 (v2, v7, v8, v9, v12, v13, v22, v23, v24, v25, (IntKind.wrap .i64 (v26 + 1)), ()) w
def q17McodeBack.j8 (R : EPq)  (k1 : (Sl × (Option Addr) × Int × Int × Sl × Int × Unit) → WPq) (v2 : Sl) (v7 : (Option Addr)) (v8 : Int) (v9 : Int) (v12 : Sl) (v13 : Int) (t209 : Bool) (w : World) : Prop :=
  Cd t209 (R (.returned (.bool false)) w) (k1 (v2, v7, v8, v9, v12, (IntKind.wrap .i64 (v13 + 1)), ()) w)
def q17McodeBack.b3 (R : EPq) (k1 : (Sl × (Option Addr) × Int × Int × Sl × Int × Unit) → WPq) (k3 : (Sl × (Option Addr) × Int × Int × Sl × Int × Sl × Sl × Sl × Int × Int × Unit) → WPq) (v2 : Sl) (v7 : (Option Addr)) (v8 : Int) (v9 : Int) (v12 : Sl) (v13 : Int) (v22 : Sl) (v23 : Sl) (v24 : Sl) (v25 : Int) (v26 : Int) (w : World) : Prop :=
  Cd (decide (v26 < (IntKind.wrap .i64 (v8 + v9)))) (Pu Tryz.prog (Instr.indexAt 36 (.slice v22.base v22.len v22.cap) (.int .i64 v26)) (.one (.at .addr)) (fun (x46 : Addr) w47 =>
  Rd Tryz.prog (Instr.loadAt 4 (.pointer (some x46))) (.one (.at .bool)) (fun (x48 : Bool) w49 =>
  Cd x48 (Pu Tryz.prog (Instr.indexAt 30 (.slice v23.base v23.len v23.cap) (.int .i64 v26)) (.one (.at .addr)) (fun (x50 : Addr) w51 =>
  Wu Tryz.prog (Instr.storeAt 24 (.pointer (some x50)) (.slice none 0 0)) (fun w52 =>
  Pu Tryz.prog (Instr.indexAt 30 (.slice v24.base v24.len v24.cap) (.int .i64 v26)) (.one (.at .addr)) (fun (x53 : Addr) w54 =>
  Wu Tryz.prog (Instr.storeAt 24 (.pointer (some x53)) (.slice none 0 0)) (fun w55 =>
  q17McodeBack.j7 R k1 k3 v2 v7 v8 v9 v12 v13 v22 v23 v24 (IntKind.wrap .i64 (v25 + 1)) v26 w55) w54) w52) w51) w49) (q17McodeBack.j7 R k1 k3 v2 v7 v8 v9 v12 v13 v22 v23 v24 v25 v26 w49)) w47) w) (Cd (decide (v25 > v9)) (Cl Tryz.prog 21 #[(.pointer v7), (.slice v23.base v23.len v23.cap)] (.one (.at (.int .i64))) (fun (x56 : Int) w57 =>
  Cd (x56 != 9) (q17McodeBack.j8 R k1 v2 v7 v8 v9 v12 v13 true w57) (Cl Tryz.prog 27 #[(.pointer v7), (.slice v23.base v23.len v23.cap)] (.one (.at (.int .i64))) (fun (x58 : Int) w59 =>
  Cd (x58 != 9) (q17McodeBack.j8 R k1 v2 v7 v8 v9 v12 v13 true w59) (Cl Tryz.prog 20 #[(.slice v23.base v23.len v23.cap), (.slice v24.base v24.len v24.cap)] (.one (.at .bool)) (fun (x60 : Bool) w61 =>
  q17McodeBack.j8 R k1 v2 v7 v8 v9 v12 v13 (!x60) w61) w59)) w57)) w) (q17McodeBack.j8 R k1 v2 v7 v8 v9 v12 v13 false w))
def q17McodeBack.l3 (R : EPq) (k1 : (Sl × (Option Addr) × Int × Int × Sl × Int × Unit) → WPq) : (Sl × (Option Addr) × Int × Int × Sl × Int × Sl × Sl × Sl × Int × Int × Unit) → World → Prop := loopW (fun k3 s w => q17McodeBack.b3 R k1 k3 s.1 s.2.1 s.2.2.1 s.2.2.2.1 s.2.2.2.2.1 s.2.2.2.2.2.1 s.2.2.2.2.2.2.1 s.2.2.2.2.2.2.2.1 s.2.2.2.2.2.2.2.2.1 s.2.2.2.2.2.2.2.2.2.1 s.2.2.2.2.2.2.2.2.2.2.1 w)
def q17McodeBack.j6 (R : EPq)  (k1 : (Sl × (Option Addr) × Int × Int × Sl × Int × Unit) → WPq) (v2 : Sl) (v7 : (Option Addr)) (v8 : Int) (v9 : Int) (v12 : Sl) (v13 : Int) (v14 : Sl) (t153 : Bool) (w : World) : Prop :=
  Cd t153 (R (.returned (.bool false)) w) (Cl Tryz.prog 15 #[(.int .i64 (IntKind.wrap .i64 (v8 + v9))), (.int .i64 (minI (IntKind.wrap .i64 (v9 + 1)) (IntKind.wrap .i64 ((IntKind.wrap .i64 (v8 + v9)) - 1)))), (.slice v14.base v14.len v14.cap)] (.one (.at .sl)) (fun (x40 : Sl) w41 =>
  Cl Tryz.prog 18 #[(.slice v12.base v12.len v12.cap)] (.one (.at .sl)) (fun (x42 : Sl) w43 =>
  Cl Tryz.prog 18 #[(.slice v12.base v12.len v12.cap)] (.one (.at .sl)) (fun (x44 : Sl) w45 =>
  q17McodeBack.l3 R k1 (v2, v7, v8, v9, v12, v13, x40, x42, x44, 0, 0, ()) w45) w43) w41) w)
def q17McodeBack.j5 (R : EPq)  (k1 : (Sl × (Option Addr) × Int × Int × Sl × Int × Unit) → WPq) (v2 : Sl) (v7 : (Option Addr)) (v8 : Int) (v9 : Int) (v12 : Sl) (v13 : Int) (v14 : Sl) (v16 : Sl) (t141 : Bool) (w : World) : Prop :=
  Cd t141 (R (.returned (.bool false)) w) (Cl Tryz.prog 14 #[(.pointer v7), (.slice v16.base v16.len v16.cap)] (.tup [.at .bool, .at (.int .i64)]) (fun x38 w39 =>
  Cd (!x38.1) (q17McodeBack.j6 R k1 v2 v7 v8 v9 v12 v13 v14 true w39) (q17McodeBack.j6 R k1 v2 v7 v8 v9 v12 v13 v14 (x38.2.1 != 0) w39)) w)
def q17McodeBack.b2 (R : EPq) (k1 : (Sl × (Option Addr) × Int × Int × Sl × Int × Unit) → WPq) (k2 : (Sl × (Option Addr) × Int × Int × Sl × Int × Sl × Sl × Sl × Sl × Sl × Int × Unit) → WPq) (v2 : Sl) (v7 : (Option Addr)) (v8 : Int) (v9 : Int) (v12 : Sl) (v13 : Int) (v14 : Sl) (v15 : Sl) (v16 : Sl) (v17 : Sl) (v18 : Sl) (v19 : Int) (w : World) : Prop :=
  Cd (decide (v19 < (IntKind.wrap .i64 (v8 + v9)))) (Pu Tryz.prog (Instr.indexAt 36 (.slice v15.base v15.len v15.cap) (.int .i64 v19)) (.one (.at .addr)) (fun (x23 : Addr) w24 =>
  Rd Tryz.prog (Instr.loadAt 4 (.pointer (some x23))) (.one (.at .bool)) (fun (x25 : Bool) w26 =>
  Cd x25 (Pu Tryz.prog (Instr.indexAt 30 (.slice v16.base v16.len v16.cap) (.int .i64 v19)) (.one (.at .addr)) (fun (x27 : Addr) w28 =>
  Wu Tryz.prog (Instr.storeAt 24 (.pointer (some x27)) (.slice none 0 0)) (fun w29 =>
  Wr Tryz.prog (Instr.buildSlice 24 0 #[]) (.one (.at .sl)) (fun (x30 : Sl) w31 =>
  Pu Tryz.prog (Instr.indexAt 30 (.slice v17.base v17.len v17.cap) (.int .i64 v19)) (.one (.at .addr)) (fun (x32 : Addr) w33 =>
  Wu Tryz.prog (Instr.storeAt 24 (.pointer (some x32)) (.slice x30.base x30.len x30.cap)) (fun w34 =>
  Cd (decide (v19 ≥ v8)) (Pu Tryz.prog (Instr.indexAt 30 (.slice v18.base v18.len v18.cap) (.int .i64 v19)) (.one (.at .addr)) (fun (x35 : Addr) w36 =>
  Wu Tryz.prog (Instr.storeAt 24 (.pointer (some x35)) (.slice none 0 0)) (fun w37 =>
  q17McodeBack.j4 R k1 k2 v2 v7 v8 v9 v12 v13 v14 v15 v16 v17 v18 v19 w37) w36) w34) (q17McodeBack.j4 R k1 k2 v2 v7 v8 v9 v12 v13 v14 v15 v16 v17 v18 v19 w34)) w33) w31) w29) w28) w26) (q17McodeBack.j4 R k1 k2 v2 v7 v8 v9 v12 v13 v14 v15 v16 v17 v18 v19 w26)) w24) w) (Cl Tryz.prog 21 #[(.pointer v7), (.slice v16.base v16.len v16.cap)] (.one (.at (.int .i64))) (fun (x62 : Int) w63 =>
  Cd (x62 != 0) (q17McodeBack.j5 R k1 v2 v7 v8 v9 v12 v13 v14 v16 true w63) (Cl Tryz.prog 20 #[(.slice v16.base v16.len v16.cap), (.slice v12.base v12.len v12.cap)] (.one (.at .bool)) (fun (x64 : Bool) w65 =>
  Cd (!x64) (q17McodeBack.j5 R k1 v2 v7 v8 v9 v12 v13 v14 v16 true w65) (Cl Tryz.prog 27 #[(.pointer v7), (.slice v17.base v17.len v17.cap)] (.one (.at (.int .i64))) (fun (x66 : Int) w67 =>
  Cd (x66 != 0) (q17McodeBack.j5 R k1 v2 v7 v8 v9 v12 v13 v14 v16 true w67) (Cl Tryz.prog 20 #[(.slice v17.base v17.len v17.cap), (.slice v18.base v18.len v18.cap)] (.one (.at .bool)) (fun (x68 : Bool) w69 =>
  q17McodeBack.j5 R k1 v2 v7 v8 v9 v12 v13 v14 v16 (!x68) w69) w67)) w65)) w63)) w)
def q17McodeBack.l2 (R : EPq) (k1 : (Sl × (Option Addr) × Int × Int × Sl × Int × Unit) → WPq) : (Sl × (Option Addr) × Int × Int × Sl × Int × Sl × Sl × Sl × Sl × Sl × Int × Unit) → World → Prop := loopW (fun k2 s w => q17McodeBack.b2 R k1 k2 s.1 s.2.1 s.2.2.1 s.2.2.2.1 s.2.2.2.2.1 s.2.2.2.2.2.1 s.2.2.2.2.2.2.1 s.2.2.2.2.2.2.2.1 s.2.2.2.2.2.2.2.2.1 s.2.2.2.2.2.2.2.2.2.1 s.2.2.2.2.2.2.2.2.2.2.1 s.2.2.2.2.2.2.2.2.2.2.2.1 w)
def q17McodeBack.j3 (R : EPq)  (k1 : (Sl × (Option Addr) × Int × Int × Sl × Int × Unit) → WPq) (v2 : Sl) (v7 : (Option Addr)) (v8 : Int) (v9 : Int) (v12 : Sl) (v13 : Int) (v14 : Sl) (w : World) : Prop :=
  Cl Tryz.prog 16 #[(.int .i64 ((v14.len : Nat) : Int)), (.int .i64 1), (.int .i64 v9)] (.one (.at (.int .i64))) (fun (x13 : Int) w14 =>
  Cl Tryz.prog 15 #[(.int .i64 (IntKind.wrap .i64 (v8 + v9))), (.int .i64 x13), (.slice v14.base v14.len v14.cap)] (.one (.at .sl)) (fun (x15 : Sl) w16 =>
  Cl Tryz.prog 18 #[(.slice v12.base v12.len v12.cap)] (.one (.at .sl)) (fun (x17 : Sl) w18 =>
  Cl Tryz.prog 18 #[(.slice v12.base v12.len v12.cap)] (.one (.at .sl)) (fun (x19 : Sl) w20 =>
  Cl Tryz.prog 18 #[(.slice v12.base v12.len v12.cap)] (.one (.at .sl)) (fun (x21 : Sl) w22 =>
  q17McodeBack.l2 R k1 (v2, v7, v8, v9, v12, v13, v14, x15, x17, x19, x21, 0, ()) w22) w20) w18) w16) w14) w
def q17McodeBack.b1 (R : EPq) (k1 : (Sl × (Option Addr) × Int × Int × Sl × Int × Unit) → WPq) (v2 : Sl) (v7 : (Option Addr)) (v8 : Int) (v9 : Int) (v12 : Sl) (v13 : Int) (w : World) : Prop :=
  Cd (decide (v13 < ((v2.len : Nat) : Int))) (Cd (decide (v13 ≥ 0)) (Pu Tryz.prog (Instr.indexAt 53 (.slice v2.base v2.len v2.cap) (.int .i64 v13)) (.one (.at .addr)) (fun (x70 : Addr) w71 =>
  Rd Tryz.prog (Instr.loadAt 25 (.pointer (some x70))) (.one (.at .sl)) (fun (x72 : Sl) w73 =>
  q17McodeBack.j3 R k1 v2 v7 v8 v9 v12 v13 x72 w73) w71) w) (q17McodeBack.j3 R k1 v2 v7 v8 v9 v12 v13 ⟨none, 0, 0⟩ w)) (R (.returned (.bool true)) w)
def q17McodeBack.l1 (R : EPq) : (Sl × (Option Addr) × Int × Int × Sl × Int × Unit) → World → Prop := loopW (fun k1 s w => q17McodeBack.b1 R k1 s.1 s.2.1 s.2.2.1 s.2.2.2.1 s.2.2.2.2.1 s.2.2.2.2.2.1 w)
def q17McodeBack.j2 (R : EPq)  (v2 : Sl) (v7 : (Option Addr)) (v8 : Int) (v9 : Int) (v10 : Sl) (t66 : Bool) (w : World) : Prop :=
  Cd t66 (R (.returned (.bool false)) w) (Cl Tryz.prog 18 #[(.slice v10.base v10.len v10.cap)] (.one (.at .sl)) (fun (x11 : Sl) w12 =>
  q17McodeBack.l1 R (v2, v7, v8, v9, x11, (-1), ()) w12) w)
def q17McodeBack.j1 (R : EPq)  (v1 : Sl) (v2 : Sl) (v7 : (Option Addr)) (v8 : Int) (v9 : Int) (t38 : Bool) (w : World) : Prop :=
  Cd t38 (R (.returned (.bool false)) w) (Cl Tryz.prog 12 #[(.slice v1.base v1.len v1.cap), (.int .i64 v8), (.int .i64 v9), (.int .i64 60)] (.one (.at .sl)) (fun (x7 : Sl) w8 =>
  Cl Tryz.prog 18 #[(.slice x7.base x7.len x7.cap)] (.one (.at .sl)) (fun (x9 : Sl) w10 =>
  Held w10.drew (fun S74 => Cl Tryz.prog 13 #[(.pointer v7), (.slice x7.base x7.len x7.cap)] (.one (.at (.int .i64))) (fun (x75 : Int) w76 =>
  S74 w76 ∧ (Cd (x75 != 0) (q17McodeBack.j2 R v2 v7 v8 v9 x7 true w76) (Pu Tryz.prog (Instr.sliceAt 30 (.slice x7.base x7.len x7.cap) none (some (.int .i64 v8)) none) (.one (.at .sl)) (fun (x77 : Sl) w78 =>
  Pu Tryz.prog (Instr.sliceAt 30 (.slice x9.base x9.len x9.cap) none (some (.int .i64 v8)) none) (.one (.at .sl)) (fun (x79 : Sl) w80 =>
  Cl Tryz.prog 20 #[(.slice x77.base x77.len x77.cap), (.slice x79.base x79.len x79.cap)] (.one (.at .bool)) (fun (x81 : Bool) w82 =>
  S74 w82 ∧ (Cd (!x81) (q17McodeBack.j2 R v2 v7 v8 v9 x7 true w82) (Cl Tryz.prog 26 #[(.pointer v7), (.slice x7.base x7.len x7.cap), (.int .i64 v8), (.int .i64 v9)] (.one (.at .bool)) (fun (x83 : Bool) w84 =>
  S74 w84 ∧ (q17McodeBack.j2 R v2 v7 v8 v9 x7 (!x83) w84)) w82))) w80) w78) w76))) w10.drew)) w8) w)
def q17McodeBack.M (R : EPq) (v0 : (Int × Int × Int × Int × Unit)) (v1 : Sl) (v2 : Sl) (w : World) : Prop :=
  Wr Tryz.prog (Instr.box 23 (.agg #[(.int .i64 v0.1), (.int .i64 v0.2.1), (.int .i64 v0.2.2.1), (.int .i64 v0.2.2.2.1)])) (.one (.at .addr)) (fun (x1 : Addr) w2 =>
  Rd Tryz.prog (Instr.loadAt 23 (.pointer (some x1))) (.one (.agg [.int .i64, .int .i64, .int .i64, .int .i64])) (fun x3 w4 =>
  Cl Tryz.prog 10 #[(.agg #[(.int .i64 x3.1), (.int .i64 x3.2.1), (.int .i64 x3.2.2.1), (.int .i64 x3.2.2.2.1)])] (.tup [.at .ptr, .at (.int .i64), .at (.int .i64)]) (fun x5 w6 =>
  Cl Tryz.prog 11 #[] (.one (.at .bool)) (fun (x85 : Bool) w86 =>
  Cd (!x85) (q17McodeBack.j1 R v1 v2 x5.1 x5.2.1 x5.2.2.1 true w86) (Pu Tryz.prog (do eqGuard .eql 26 (.tmp 36) (.const (.pointer none)) (.pointer x5.1) (.pointer none); binOp .eql 26 (.pointer x5.1) (.pointer none)) (.one (.at .bool)) (fun (x87 : Bool) w88 =>
  q17McodeBack.j1 R v1 v2 x5.1 x5.2.1 x5.2.2.1 x87 w88) w86)) w6) w4) w2) w
noncomputable def q17McodeBack.ann (R : EPq) : Ann :=
  .seq (.reg (.op 0 (.wr (.one (.at .addr))) (.op 1 .now (.done)))) (.seq (.reg (.op 0 (.rd (.one (.agg [.int .i64, .int .i64, .int .i64, .int .i64]))) (.op 1 (.cl (.tup [.at .ptr, .at (.int .i64), .at (.int .i64)])) (.op 2 .now (.op 3 .now (.op 4 .now (.op 5 .now (.op 6 .now (.op 7 .now (.op 8 .now (.done))))))))))) (.seq (.join [(1, qcS), (2, qcS), (7, qcP), (8, qcI), (9, qcI), (38, .at .bool)] (fun s w => q17McodeBack.j1 R s.1 s.2.1 s.2.2.1 s.2.2.2.1 s.2.2.2.2.1 s.2.2.2.2.2.1 w) (.reg (.op 0 (.cl (.one (.at .bool))) (.op 1 .now (.op 2 .now (.split 2 (.skip 3 (.skip 4 (.op 5 .now (.done)))) (.op 3 .now (.op 4 (.pu (.one (.at .bool))) (.op 5 .now (.done))))))))) (.cond (.seq (.reg qN1) (.leaf)) (.leaf))) (.seq (.reg (.op 0 .now (.op 1 .now (.op 2 .now (.op 3 (.cl (.one qcS)) (.op 4 .now (.done))))))) (.seq (.reg (.op 0 .now (.op 1 (.cl (.one qcS)) (.op 2 .now (.done))))) (.seq (.join [(2, qcS), (7, qcP), (8, qcI), (9, qcI), (10, qcS), (66, .at .bool)] (fun s w => q17McodeBack.j2 R s.1 s.2.1 s.2.2.1 s.2.2.2.1 s.2.2.2.2.1 s.2.2.2.2.2.1 w) (.regD (.op 0 .now (.op 1 .now (.op 2 (.cl (.one qcI)) (.op 3 .now (.op 4 .now (.split 4 (.skip 5 (.skip 6 (.skip 7 (.skip 8 (.skip 9 (.skip 10 (.skip 11 (.skip 12 (.op 13 .now (.op 14 .now (.skip 15 (.skip 16 (.skip 17 (.skip 18 (.skip 19 (.skip 20 (.op 21 .now (.done)))))))))))))))))) (.op 5 .now (.op 6 .now (.op 7 (.pu (.one qcS)) (.op 8 .now (.op 9 .now (.op 10 (.pu (.one qcS)) (.op 11 (.cl (.one (.at .bool))) (.op 12 .now (.op 13 .now (.op 14 .now (.split 14 (.skip 15 (.skip 16 (.skip 17 (.skip 18 (.skip 19 (.skip 20 (.op 21 .now (.done)))))))) (.op 15 .now (.op 16 .now (.op 17 .now (.op 18 .now (.op 19 (.cl (.one (.at .bool))) (.op 20 .now (.op 21 .now (.done)))))))))))))))))))))))))) (.cond (.seq (.reg qN1) (.leaf)) (.leaf))) (.seq (.reg (.op 0 .now (.op 1 (.cl (.one qcS)) (.op 2 .now (.done))))) (.seq (.seq (.reg qN1) (.block (.loop [(2, qcS), (7, qcP), (8, qcI), (9, qcI), (12, qcS), (13, qcI)] (fun k1 s w => q17McodeBack.b1 R k1 s.1 s.2.1 s.2.2.1 s.2.2.2.1 s.2.2.2.2.1 s.2.2.2.2.2.1 w) (fun k1 => .seq (.seq (.reg qN4) (.cond (.leaf) (.leaf))) (.seq (.block (.seq (.reg qN1) (.join [(2, qcS), (7, qcP), (8, qcI), (9, qcI), (12, qcS), (13, qcI), (14, qcS)] (fun s w => q17McodeBack.j3 R k1 s.1 s.2.1 s.2.2.1 s.2.2.2.1 s.2.2.2.2.1 s.2.2.2.2.2.1 s.2.2.2.2.2.2.1 w) (.seq (.reg qN2) (.cond (.reg (.op 0 .now (.op 1 .now (.op 2 qpA (.op 3 qrS (.op 4 .now (.done))))))) (.leaf))) (.seq (.reg (.op 0 .now (.op 1 .now (.op 2 .now (.op 3 .now (.op 4 .now (.op 5 .now (.op 6 (.cl (.one qcI)) (.op 7 .now (.op 8 (.cl (.one qcS)) (.op 9 .now (.done)))))))))))) (.seq (.reg (.op 0 .now (.op 1 (.cl (.one qcS)) (.op 2 .now (.done))))) (.seq (.reg (.op 0 .now (.op 1 (.cl (.one qcS)) (.op 2 .now (.done))))) (.seq (.reg (.op 0 .now (.op 1 (.cl (.one qcS)) (.op 2 .now (.done))))) (.seq (.seq (.reg qN1) (.block (.loop [(2, qcS), (7, qcP), (8, qcI), (9, qcI), (12, qcS), (13, qcI), (14, qcS), (15, qcS), (16, qcS), (17, qcS), (18, qcS), (19, qcI)] (fun k2 s w => q17McodeBack.b2 R k1 k2 s.1 s.2.1 s.2.2.1 s.2.2.2.1 s.2.2.2.2.1 s.2.2.2.2.2.1 s.2.2.2.2.2.2.1 s.2.2.2.2.2.2.2.1 s.2.2.2.2.2.2.2.2.1 s.2.2.2.2.2.2.2.2.2.1 s.2.2.2.2.2.2.2.2.2.2.1 s.2.2.2.2.2.2.2.2.2.2.2.1 w) (fun k2 => .seq (.seq (.reg qN5) (.cond (.leaf) (.leaf))) (.join [(2, qcS), (7, qcP), (8, qcI), (9, qcI), (12, qcS), (13, qcI), (14, qcS), (15, qcS), (16, qcS), (17, qcS), (18, qcS), (19, qcI)] (fun s w => q17McodeBack.j4 R k1 k2 s.1 s.2.1 s.2.2.1 s.2.2.2.1 s.2.2.2.2.1 s.2.2.2.2.2.1 s.2.2.2.2.2.2.1 s.2.2.2.2.2.2.2.1 s.2.2.2.2.2.2.2.2.1 s.2.2.2.2.2.2.2.2.2.1 s.2.2.2.2.2.2.2.2.2.2.1 s.2.2.2.2.2.2.2.2.2.2.2.1 w) (.block (.seq (.reg (.op 0 .now (.op 1 .now (.op 2 qpA (.op 3 (.rd (.one (.at .bool))) (.done)))))) (.cond (.seq (.reg (.op 0 .now (.op 1 .now (.op 2 qpA (.op 3 .wu (.done)))))) (.seq (.reg (.op 0 .now (.op 1 .now (.op 2 (.wr (.one qcS)) (.op 3 qpA (.op 4 .wu (.done))))))) (.seq (.reg qN3) (.cond (.reg (.op 0 .now (.op 1 .now (.op 2 qpA (.op 3 .wu (.done)))))) (.leaf))))) (.leaf)))) (.reg qN3)))))) (.seq (.join [(2, qcS), (7, qcP), (8, qcI), (9, qcI), (12, qcS), (13, qcI), (14, qcS), (16, qcS), (141, .at .bool)] (fun s w => q17McodeBack.j5 R k1 s.1 s.2.1 s.2.2.1 s.2.2.2.1 s.2.2.2.2.1 s.2.2.2.2.2.1 s.2.2.2.2.2.2.1 s.2.2.2.2.2.2.2.1 s.2.2.2.2.2.2.2.2.1 w) (.reg (.op 0 .now (.op 1 .now (.op 2 (.cl (.one qcI)) (.op 3 .now (.op 4 .now (.split 4 (.skip 5 (.skip 6 (.skip 7 (.skip 8 (.op 9 .now (.op 10 .now (.skip 11 (.skip 12 (.skip 13 (.skip 14 (.op 15 .now (.op 16 .now (.skip 17 (.skip 18 (.skip 19 (.skip 20 (.op 21 .now (.done)))))))))))))))))) (.op 5 .now (.op 6 .now (.op 7 (.cl (.one (.at .bool))) (.op 8 .now (.op 9 .now (.op 10 .now (.split 10 (.skip 11 (.skip 12 (.skip 13 (.skip 14 (.op 15 .now (.op 16 .now (.skip 17 (.skip 18 (.skip 19 (.skip 20 (.op 21 .now (.done)))))))))))) (.op 11 .now (.op 12 .now (.op 13 (.cl (.one qcI)) (.op 14 .now (.op 15 .now (.op 16 .now (.split 16 (.skip 17 (.skip 18 (.skip 19 (.skip 20 (.op 21 .now (.done)))))) (.op 17 .now (.op 18 .now (.op 19 (.cl (.one (.at .bool))) (.op 20 .now (.op 21 .now (.done))))))))))))))))))))))))))) (.cond (.seq (.reg qN1) (.leaf)) (.leaf))) (.seq (.reg (.op 0 .now (.op 1 .now (.op 2 (.cl (.tup [.at .bool, .at (.int .i64)])) (.op 3 .now (.op 4 .now (.op 5 .now (.op 6 .now (.op 7 .now (.done)))))))))) (.seq (.join [(2, qcS), (7, qcP), (8, qcI), (9, qcI), (12, qcS), (13, qcI), (14, qcS), (153, .at .bool)] (fun s w => q17McodeBack.j6 R k1 s.1 s.2.1 s.2.2.1 s.2.2.2.1 s.2.2.2.2.1 s.2.2.2.2.2.1 s.2.2.2.2.2.2.1 s.2.2.2.2.2.2.2.1 w) (.reg (.op 0 .now (.op 1 .now (.op 2 .now (.split 2 (.skip 3 (.skip 4 (.op 5 .now (.done)))) (.op 3 .now (.op 4 .now (.op 5 .now (.done))))))))) (.cond (.seq (.reg qN1) (.leaf)) (.leaf))) (.seq (.reg (.op 0 .now (.op 1 .now (.op 2 .now (.op 3 .now (.op 4 .now (.op 5 .now (.op 6 .now (.op 7 .now (.op 8 .now (.op 9 .now (.op 10 .now (.op 11 (.cl (.one qcS)) (.op 12 .now (.done))))))))))))))) (.seq (.reg (.op 0 .now (.op 1 (.cl (.one qcS)) (.op 2 .now (.done))))) (.seq (.reg (.op 0 .now (.op 1 (.cl (.one qcS)) (.op 2 .now (.done))))) (.seq (.reg qN1) (.seq (.seq (.reg qN1) (.block (.loop [(2, qcS), (7, qcP), (8, qcI), (9, qcI), (12, qcS), (13, qcI), (22, qcS), (23, qcS), (24, qcS), (25, qcI), (26, qcI)] (fun k3 s w => q17McodeBack.b3 R k1 k3 s.1 s.2.1 s.2.2.1 s.2.2.2.1 s.2.2.2.2.1 s.2.2.2.2.2.1 s.2.2.2.2.2.2.1 s.2.2.2.2.2.2.2.1 s.2.2.2.2.2.2.2.2.1 s.2.2.2.2.2.2.2.2.2.1 s.2.2.2.2.2.2.2.2.2.2.1 w) (fun k3 => .seq (.seq (.reg qN5) (.cond (.leaf) (.leaf))) (.join [(2, qcS), (7, qcP), (8, qcI), (9, qcI), (12, qcS), (13, qcI), (22, qcS), (23, qcS), (24, qcS), (25, qcI), (26, qcI)] (fun s w => q17McodeBack.j7 R k1 k3 s.1 s.2.1 s.2.2.1 s.2.2.2.1 s.2.2.2.2.1 s.2.2.2.2.2.1 s.2.2.2.2.2.2.1 s.2.2.2.2.2.2.2.1 s.2.2.2.2.2.2.2.2.1 s.2.2.2.2.2.2.2.2.2.1 s.2.2.2.2.2.2.2.2.2.2.1 w) (.block (.seq (.reg (.op 0 .now (.op 1 .now (.op 2 qpA (.op 3 (.rd (.one (.at .bool))) (.done)))))) (.cond (.seq (.reg (.op 0 .now (.op 1 .now (.op 2 qpA (.op 3 .wu (.done)))))) (.seq (.reg (.op 0 .now (.op 1 .now (.op 2 qpA (.op 3 .wu (.done)))))) (.reg qN3))) (.leaf)))) (.reg qN3)))))) (.join [(2, qcS), (7, qcP), (8, qcI), (9, qcI), (12, qcS), (13, qcI), (209, .at .bool)] (fun s w => q17McodeBack.j8 R k1 s.1 s.2.1 s.2.2.1 s.2.2.2.1 s.2.2.2.2.1 s.2.2.2.2.2.1 s.2.2.2.2.2.2.1 w) (.reg (.op 0 .now (.op 1 .now (.op 2 .now (.op 3 .now (.split 3 (.op 4 .now (.op 5 .now (.op 6 (.cl (.one qcI)) (.op 7 .now (.op 8 .now (.split 8 (.skip 9 (.skip 10 (.skip 11 (.skip 12 (.op 13 .now (.op 14 .now (.skip 15 (.skip 16 (.skip 17 (.skip 18 (.op 19 .now (.op 20 .now (.done))))))))))))) (.op 9 .now (.op 10 .now (.op 11 (.cl (.one qcI)) (.op 12 .now (.op 13 .now (.op 14 .now (.split 14 (.skip 15 (.skip 16 (.skip 17 (.skip 18 (.op 19 .now (.op 20 .now (.done))))))) (.op 15 .now (.op 16 .now (.op 17 (.cl (.one (.at .bool))) (.op 18 .now (.op 19 .now (.op 20 .now (.done)))))))))))))))))))) (.skip 4 (.skip 5 (.skip 6 (.skip 7 (.skip 8 (.skip 9 (.skip 10 (.skip 11 (.skip 12 (.skip 13 (.skip 14 (.skip 15 (.skip 16 (.skip 17 (.skip 18 (.skip 19 (.op 20 .now (.done)))))))))))))))))))))))) (.cond (.seq (.reg qN1) (.leaf)) (.leaf))))))))))))))))))) (.reg qN3)))))) (.seq (.reg qN1) (.leaf)))))))))
theorem q17McodeBack.run (R : EPq) (v0 : (Int × Int × Int × Int × Unit)) (v1 : Sl) (v2 : Sl) (w : World) (h : q17McodeBack.M R v0 v1 v2 w) : Calls Tryz.prog 7 #[(.agg #[(.int .i64 v0.1), (.int .i64 v0.2.1), (.int .i64 v0.2.2.1), (.int .i64 v0.2.2.2.1)]), (.slice v1.base v1.len v1.cap), (.slice v2.base v2.len v2.cap)] w R := by
  refine calls_of_lift mix_eqf Tryz.func7 (c := q17McodeBack.body) (by kernel_rfl) [.at .bool] (q17McodeBack.ann R) 210 Tryz.ntmps7 [.tmp 6] (by kernel_rfl) (Nat.le_of_ble_eq_true (by kernel_rfl)) ?_ ?_
  · exact ⟨tv, ⟨tv, ⟨⟨fun s w => mq, tv, ⟨⟨tv, tv⟩, tv⟩⟩, ⟨tv, ⟨tv, ⟨⟨fun s w => mq, (show Region.noSelect _ = true by kernel_rfl), ⟨⟨tv, tv⟩, tv⟩⟩, ⟨tv, ⟨⟨tv, (fun k1 => ⟨fun s w => mq, ⟨⟨tv, ⟨tv, tv⟩⟩, ⟨⟨tv, ⟨fun s w => mq, ⟨tv, ⟨tv, tv⟩⟩, ⟨tv, ⟨tv, ⟨tv, ⟨tv, ⟨⟨tv, (fun k2 => ⟨fun s w => mq, ⟨⟨tv, ⟨tv, tv⟩⟩, ⟨fun s w => mq, ⟨tv, ⟨⟨tv, ⟨tv, ⟨tv, ⟨tv, tv⟩⟩⟩⟩, tv⟩⟩, tv⟩⟩⟩)⟩, ⟨⟨fun s w => mq, tv, ⟨⟨tv, tv⟩, tv⟩⟩, ⟨tv, ⟨⟨fun s w => mq, tv, ⟨⟨tv, tv⟩, tv⟩⟩, ⟨tv, ⟨tv, ⟨tv, ⟨tv, ⟨⟨tv, (fun k3 => ⟨fun s w => mq, ⟨⟨tv, ⟨tv, tv⟩⟩, ⟨fun s w => mq, ⟨tv, ⟨⟨tv, ⟨tv, tv⟩⟩, tv⟩⟩, tv⟩⟩⟩)⟩, ⟨fun s w => mq, tv, ⟨⟨tv, tv⟩, tv⟩⟩⟩⟩⟩⟩⟩⟩⟩⟩⟩⟩⟩⟩⟩⟩⟩, tv⟩⟩⟩)⟩, ⟨tv, tv⟩⟩⟩⟩⟩⟩⟩⟩⟩
  · exact Eq.mp (show q17McodeBack.M R v0 v1 v2 w = _ by kernel_rfl) h
noncomputable def q17again.body : Code := (Tryz.f26.body).getD .skip
def q17again.b2 (R : EPq) (k1 : ((Option Addr) × Int × Int × Sl × Sl × Int × Unit) → WPq) (k2 : ((Option Addr) × Int × Int × Sl × Sl × Int × Int × Unit) → WPq) (v0 : (Option Addr)) (v2 : Int) (v3 : Int) (v9 : Sl) (v10 : Sl) (v11 : Int) (v12 : Int) (w : World) : Prop :=
  Pu Tryz.prog (Instr.indexAt 30 (.slice v9.base v9.len v9.cap) (.int .i64 v11)) (.one (.at .addr)) (fun (x5 : Addr) w6 =>
  Rd Tryz.prog (Instr.loadAt 24 (.pointer (some x5))) (.one (.at .sl)) (fun (x7 : Sl) w8 =>
  Cd (decide (v12 < ((x7.len : Nat) : Int))) (Pu Tryz.prog (Instr.indexAt 30 (.slice v9.base v9.len v9.cap) (.int .i64 v11)) (.one (.at .addr)) (fun (x9 : Addr) w10 =>
  Rd Tryz.prog (Instr.loadAt 24 (.pointer (some x9))) (.one (.at .sl)) (fun (x11 : Sl) w12 =>
  Pu Tryz.prog (Instr.indexAt 24 (.slice x11.base x11.len x11.cap) (.int .i64 v12)) (.one (.at .addr)) (fun (x13 : Addr) w14 =>
  Rd Tryz.prog (Instr.loadAt 5 (.pointer (some x13))) (.one (.at (.int .u8))) (fun (x15 : Int) w16 =>
  Pu Tryz.prog (Instr.indexAt 24 (.slice x11.base x11.len x11.cap) (.int .i64 v12)) (.one (.at .addr)) (fun (x17 : Addr) w18 =>
  Wu Tryz.prog (Instr.storeAt 5 (.pointer (some x17)) (.int .u8 (bXor .u8 x15 (IntKind.wrap .u8 (IntKind.wrap .i64 (v11 + 1)))))) (fun w19 =>
  k2 (v0, v2, v3, v9, v10, v11, (IntKind.wrap .i64 (v12 + 1)), ()) w19) w18) w16) w14) w12) w10) w8) (k1 (v0, v2, v3, v9, v10, (IntKind.wrap .i64 (v11 + 1)), ()) w8)) w6) w
def q17again.l2 (R : EPq) (k1 : ((Option Addr) × Int × Int × Sl × Sl × Int × Unit) → WPq) : ((Option Addr) × Int × Int × Sl × Sl × Int × Int × Unit) → World → Prop := loopW (fun k2 s w => q17again.b2 R k1 k2 s.1 s.2.1 s.2.2.1 s.2.2.2.1 s.2.2.2.2.1 s.2.2.2.2.2.1 s.2.2.2.2.2.2.1 w)
def q17again.b5 (R : EPq) (k4 : ((Option Addr) × Int × Int × Sl × Sl × Sl × Int × Unit) → WPq) (k5 : ((Option Addr) × Int × Int × Sl × Sl × Sl × Int × Int × Unit) → WPq) (v0 : (Option Addr)) (v2 : Int) (v3 : Int) (v10 : Sl) (v16 : Sl) (v17 : Sl) (v18 : Int) (v19 : Int) (w : World) : Prop :=
  Pu Tryz.prog (Instr.indexAt 30 (.slice v16.base v16.len v16.cap) (.int .i64 v18)) (.one (.at .addr)) (fun (x59 : Addr) w60 =>
  Rd Tryz.prog (Instr.loadAt 24 (.pointer (some x59))) (.one (.at .sl)) (fun (x61 : Sl) w62 =>
  Cd (decide (v19 < ((x61.len : Nat) : Int))) (Pu Tryz.prog (Instr.indexAt 30 (.slice v16.base v16.len v16.cap) (.int .i64 v18)) (.one (.at .addr)) (fun (x63 : Addr) w64 =>
  Rd Tryz.prog (Instr.loadAt 24 (.pointer (some x63))) (.one (.at .sl)) (fun (x65 : Sl) w66 =>
  Pu Tryz.prog (Instr.indexAt 24 (.slice x65.base x65.len x65.cap) (.int .i64 v19)) (.one (.at .addr)) (fun (x67 : Addr) w68 =>
  Rd Tryz.prog (Instr.loadAt 5 (.pointer (some x67))) (.one (.at (.int .u8))) (fun (x69 : Int) w70 =>
  Pu Tryz.prog (Instr.indexAt 24 (.slice x65.base x65.len x65.cap) (.int .i64 v19)) (.one (.at .addr)) (fun (x71 : Addr) w72 =>
  Wu Tryz.prog (Instr.storeAt 5 (.pointer (some x71)) (.int .u8 (bXor .u8 x69 (IntKind.wrap .u8 (IntKind.wrap .i64 ((IntKind.wrap .i64 (3 * v18)) + 1)))))) (fun w73 =>
  k5 (v0, v2, v3, v10, v16, v17, v18, (IntKind.wrap .i64 (v19 + 1)), ()) w73) w72) w70) w68) w66) w64) w62) (k4 (v0, v2, v3, v10, v16, v17, (IntKind.wrap .i64 (v18 + 1)), ()) w62)) w60) w
def q17again.l5 (R : EPq) (k4 : ((Option Addr) × Int × Int × Sl × Sl × Sl × Int × Unit) → WPq) : ((Option Addr) × Int × Int × Sl × Sl × Sl × Int × Int × Unit) → World → Prop := loopW (fun k5 s w => q17again.b5 R k4 k5 s.1 s.2.1 s.2.2.1 s.2.2.2.1 s.2.2.2.2.1 s.2.2.2.2.2.1 s.2.2.2.2.2.2.1 s.2.2.2.2.2.2.2.1 w)
def q17again.j6 (R : EPq)  (v10 : Sl) (v17 : Sl) (t209 : Bool) (w : World) : Prop :=
  Cd t209 (R (.returned (.bool false)) w) (Pu Tryz.prog (Instr.indexAt 30 (.slice v10.base v10.len v10.cap) (.int .i64 0)) (.one (.at .addr)) (fun (x82 : Addr) w83 =>
  Rd Tryz.prog (Instr.loadAt 24 (.pointer (some x82))) (.one (.at .sl)) (fun (x84 : Sl) w85 =>
  Cl Tryz.prog 38 #[(.slice v17.base v17.len v17.cap), (.slice x84.base x84.len x84.cap)] (.one (.at .bool)) (fun (x86 : Bool) w87 =>
  R (.returned (.bool x86)) w87) w85) w83) w)
def q17again.b4 (R : EPq) (k4 : ((Option Addr) × Int × Int × Sl × Sl × Sl × Int × Unit) → WPq) (v0 : (Option Addr)) (v2 : Int) (v3 : Int) (v10 : Sl) (v16 : Sl) (v17 : Sl) (v18 : Int) (w : World) : Prop :=
  Cd (decide (v18 < (IntKind.wrap .i64 (v2 + v3)))) (q17again.l5 R k4 (v0, v2, v3, v10, v16, v17, v18, 0, ()) w) (Cl Tryz.prog 18 #[(.slice v16.base v16.len v16.cap)] (.one (.at .sl)) (fun (x74 : Sl) w75 =>
  Pu Tryz.prog (Instr.indexAt 30 (.slice v16.base v16.len v16.cap) (.int .i64 0)) (.one (.at .addr)) (fun (x76 : Addr) w77 =>
  Wu Tryz.prog (Instr.storeAt 24 (.pointer (some x76)) (.slice none 0 0)) (fun w78 =>
  Pu Tryz.prog (Instr.indexAt 30 (.slice x74.base x74.len x74.cap) (.int .i64 0)) (.one (.at .addr)) (fun (x79 : Addr) w80 =>
  Wu Tryz.prog (Instr.storeAt 24 (.pointer (some x79)) (.slice none 0 0)) (fun w81 =>
  Cl Tryz.prog 21 #[(.pointer v0), (.slice v16.base v16.len v16.cap)] (.one (.at (.int .i64))) (fun (x88 : Int) w89 =>
  Cd (x88 != 0) (q17again.j6 R v10 v17 true w89) (Cl Tryz.prog 21 #[(.pointer v0), (.slice x74.base x74.len x74.cap)] (.one (.at (.int .i64))) (fun (x90 : Int) w91 =>
  Cd (x90 != 0) (q17again.j6 R v10 v17 true w91) (Cl Tryz.prog 20 #[(.slice v16.base v16.len v16.cap), (.slice x74.base x74.len x74.cap)] (.one (.at .bool)) (fun (x92 : Bool) w93 =>
  q17again.j6 R v10 v17 (!x92) w93) w91)) w89)) w81) w80) w78) w77) w75) w)
def q17again.l4 (R : EPq) : ((Option Addr) × Int × Int × Sl × Sl × Sl × Int × Unit) → World → Prop := loopW (fun k4 s w => q17again.b4 R k4 s.1 s.2.1 s.2.2.1 s.2.2.2.1 s.2.2.2.2.1 s.2.2.2.2.2.1 s.2.2.2.2.2.2.1 w)
def q17again.j5 (R : EPq)  (v0 : (Option Addr)) (v2 : Int) (v3 : Int) (v10 : Sl) (v16 : Sl) (t155 : Bool) (w : World) : Prop :=
  Cd t155 (R (.returned (.bool false)) w) (Pu Tryz.prog (Instr.indexAt 30 (.slice v16.base v16.len v16.cap) (.int .i64 0)) (.one (.at .addr)) (fun (x55 : Addr) w56 =>
  Rd Tryz.prog (Instr.loadAt 24 (.pointer (some x55))) (.one (.at .sl)) (fun (x57 : Sl) w58 =>
  q17again.l4 R (v0, v2, v3, v10, v16, x57, 1, ()) w58) w56) w)
def q17again.j4 (R : EPq)  (v0 : (Option Addr)) (v2 : Int) (v3 : Int) (v10 : Sl) (t141 : Bool) (w : World) : Prop :=
  Cd t141 (R (.returned (.bool false)) w) (Cl Tryz.prog 18 #[(.slice v10.base v10.len v10.cap)] (.one (.at .sl)) (fun (x50 : Sl) w51 =>
  Pu Tryz.prog (Instr.indexAt 30 (.slice x50.base x50.len x50.cap) (.int .i64 0)) (.one (.at .addr)) (fun (x52 : Addr) w53 =>
  Wu Tryz.prog (Instr.storeAt 24 (.pointer (some x52)) (.slice none 0 0)) (fun w54 =>
  Cl Tryz.prog 21 #[(.pointer v0), (.slice x50.base x50.len x50.cap)] (.one (.at (.int .i64))) (fun (x94 : Int) w95 =>
  Cd (x94 != 0) (q17again.j5 R v0 v2 v3 v10 x50 true w95) (Cl Tryz.prog 20 #[(.slice x50.base x50.len x50.cap), (.slice v10.base v10.len v10.cap)] (.one (.at .bool)) (fun (x96 : Bool) w97 =>
  q17again.j5 R v0 v2 v3 v10 x50 (!x96) w97) w95)) w54) w53) w51) w)
def q17again.b3 (R : EPq) (k3 : ((Option Addr) × Int × Int × Sl × Sl × Sl × Sl × Int × Unit) → WPq) (v0 : (Option Addr)) (v2 : Int) (v3 : Int) (v9 : Sl) (v10 : Sl) (v13 : Sl) (v14 : Sl) (v15 : Int) (w : World) : Prop :=
  Pu Tryz.prog (Instr.indexAt 30 (.slice v14.base v14.len v14.cap) (.int .i64 0)) (.one (.at .addr)) (fun (x35 : Addr) w36 =>
  Rd Tryz.prog (Instr.loadAt 24 (.pointer (some x35))) (.one (.at .sl)) (fun (x37 : Sl) w38 =>
  Cd (decide (v15 < ((x37.len : Nat) : Int))) (Pu Tryz.prog (Instr.indexAt 30 (.slice v14.base v14.len v14.cap) (.int .i64 0)) (.one (.at .addr)) (fun (x39 : Addr) w40 =>
  Rd Tryz.prog (Instr.loadAt 24 (.pointer (some x39))) (.one (.at .sl)) (fun (x41 : Sl) w42 =>
  Pu Tryz.prog (Instr.indexAt 24 (.slice x41.base x41.len x41.cap) (.int .i64 v15)) (.one (.at .addr)) (fun (x43 : Addr) w44 =>
  Rd Tryz.prog (Instr.loadAt 5 (.pointer (some x43))) (.one (.at (.int .u8))) (fun (x45 : Int) w46 =>
  Pu Tryz.prog (Instr.indexAt 24 (.slice x41.base x41.len x41.cap) (.int .i64 v15)) (.one (.at .addr)) (fun (x47 : Addr) w48 =>
  Wu Tryz.prog (Instr.storeAt 5 (.pointer (some x47)) (.int .u8 (bXor .u8 x45 77))) (fun w49 =>
  k3 (v0, v2, v3, v9, v10, v13, v14, (IntKind.wrap .i64 (v15 + 1)), ()) w49) w48) w46) w44) w42) w40) w38) (Cl Tryz.prog 19 #[(.pointer v0), (.slice v9.base v9.len v9.cap), (.slice v14.base v14.len v14.cap)] (.one (.at (.int .i64))) (fun (x98 : Int) w99 =>
  Cd (x98 != 0) (q17again.j4 R v0 v2 v3 v10 true w99) (Cl Tryz.prog 18 #[(.slice v14.base v14.len v14.cap)] (.one (.at .sl)) (fun (x100 : Sl) w101 =>
  Cl Tryz.prog 19 #[(.pointer v0), (.slice v13.base v13.len v13.cap), (.slice x100.base x100.len x100.cap)] (.one (.at (.int .i64))) (fun (x102 : Int) w103 =>
  Cd (x102 != 0) (q17again.j4 R v0 v2 v3 v10 true w103) (Cl Tryz.prog 20 #[(.slice v9.base v9.len v9.cap), (.slice v13.base v13.len v13.cap)] (.one (.at .bool)) (fun (x104 : Bool) w105 =>
  q17again.j4 R v0 v2 v3 v10 (!x104) w105) w103)) w101) w99)) w38)) w36) w
def q17again.l3 (R : EPq) : ((Option Addr) × Int × Int × Sl × Sl × Sl × Sl × Int × Unit) → World → Prop := loopW (fun k3 s w => q17again.b3 R k3 s.1 s.2.1 s.2.2.1 s.2.2.2.1 s.2.2.2.2.1 s.2.2.2.2.2.1 s.2.2.2.2.2.2.1 s.2.2.2.2.2.2.2.1 w)
def q17again.j3 (R : EPq)  (v0 : (Option Addr)) (v2 : Int) (v3 : Int) (v9 : Sl) (v10 : Sl) (v13 : Sl) (v14 : Sl) (t106 : Bool) (w : World) : Prop :=
  Cd t106 (R (.returned (.bool false)) w) (q17again.l3 R (v0, v2, v3, v9, v10, v13, v14, 0, ()) w)
def q17again.j2 (R : EPq)  (v0 : (Option Addr)) (v2 : Int) (v3 : Int) (v9 : Sl) (v10 : Sl) (v13 : Sl) (t78 : Bool) (w : World) : Prop :=
  Cd t78 (R (.returned (.bool false)) w) (Wr Tryz.prog (Instr.makeSlice 30 (.int .i64 v2) (.int .i64 v2)) (.one (.at .sl)) (fun (x22 : Sl) w23 =>
  Wr Tryz.prog (Instr.buildSlice 24 0 #[]) (.one (.at .sl)) (fun (x24 : Sl) w25 =>
  Pu Tryz.prog (Instr.indexAt 30 (.slice v9.base v9.len v9.cap) (.int .i64 v2)) (.one (.at .addr)) (fun (x26 : Addr) w27 =>
  Rd Tryz.prog (Instr.loadAt 24 (.pointer (some x26))) (.one (.at .sl)) (fun (x28 : Sl) w29 =>
  Wr Tryz.prog (Builtin.append_ #[24, 24] 24 #[(.slice x24.base x24.len x24.cap), (.slice x28.base x28.len x28.cap)]) (.one (.at .sl)) (fun (x30 : Sl) w31 =>
  Pu Tryz.prog (Instr.indexAt 30 (.slice x22.base x22.len x22.cap) (.int .i64 0)) (.one (.at .addr)) (fun (x32 : Addr) w33 =>
  Wu Tryz.prog (Instr.storeAt 24 (.pointer (some x32)) (.slice x30.base x30.len x30.cap)) (fun w34 =>
  Cl Tryz.prog 19 #[(.pointer v0), (.slice v9.base v9.len v9.cap), (.slice x22.base x22.len x22.cap)] (.one (.at (.int .i64))) (fun (x106 : Int) w107 =>
  Cd (x106 != 0) (q17again.j3 R v0 v2 v3 v9 v10 v13 x22 true w107) (Cl Tryz.prog 19 #[(.pointer v0), (.slice v9.base v9.len v9.cap), (.slice x22.base x22.len x22.cap)] (.one (.at (.int .i64))) (fun (x108 : Int) w109 =>
  Cd (x108 != 0) (q17again.j3 R v0 v2 v3 v9 v10 v13 x22 true w109) (Cl Tryz.prog 20 #[(.slice v9.base v9.len v9.cap), (.slice v13.base v13.len v13.cap)] (.one (.at .bool)) (fun (x110 : Bool) w111 =>
  q17again.j3 R v0 v2 v3 v9 v10 v13 x22 (!x110) w111) w109)) w107)) w34) w33) w31) w29) w27) w25) w23) w)
def q17again.b1 (R : EPq) (k1 : ((Option Addr) × Int × Int × Sl × Sl × Int × Unit) → WPq) (v0 : (Option Addr)) (v2 : Int) (v3 : Int) (v9 : Sl) (v10 : Sl) (v11 : Int) (w : World) : Prop :=
  Cd (decide (v11 < v2)) (q17again.l2 R k1 (v0, v2, v3, v9, v10, v11, 0, ()) w) (Cl Tryz.prog 18 #[(.slice v9.base v9.len v9.cap)] (.one (.at .sl)) (fun (x20 : Sl) w21 =>
  Cl Tryz.prog 13 #[(.pointer v0), (.slice v9.base v9.len v9.cap)] (.one (.at (.int .i64))) (fun (x112 : Int) w113 =>
  Cd (x112 != 0) (q17again.j2 R v0 v2 v3 v9 v10 x20 true w113) (Cl Tryz.prog 13 #[(.pointer v0), (.slice x20.base x20.len x20.cap)] (.one (.at (.int .i64))) (fun (x114 : Int) w115 =>
  Cd (x114 != 0) (q17again.j2 R v0 v2 v3 v9 v10 x20 true w115) (Cl Tryz.prog 20 #[(.slice v9.base v9.len v9.cap), (.slice x20.base x20.len x20.cap)] (.one (.at .bool)) (fun (x116 : Bool) w117 =>
  q17again.j2 R v0 v2 v3 v9 v10 x20 (!x116) w117) w115)) w113)) w21) w)
def q17again.l1 (R : EPq) : ((Option Addr) × Int × Int × Sl × Sl × Int × Unit) → World → Prop := loopW (fun k1 s w => q17again.b1 R k1 s.1 s.2.1 s.2.2.1 s.2.2.2.1 s.2.2.2.2.1 s.2.2.2.2.2.1 w)
def q17again.j1 (R : EPq)  (v0 : (Option Addr)) (v2 : Int) (v3 : Int) (v9 : Sl) (t32 : Bool) (w : World) : Prop :=
  Cd t32 (R (.returned (.bool false)) w) (Cl Tryz.prog 18 #[(.slice v9.base v9.len v9.cap)] (.one (.at .sl)) (fun (x3 : Sl) w4 =>
  q17again.l1 R (v0, v2, v3, v9, x3, 0, ()) w4) w)
def q17again.M (R : EPq) (v0 : (Option Addr)) (v1 : Sl) (v2 : Int) (v3 : Int) (w : World) : Prop :=
  Cl Tryz.prog 18 #[(.slice v1.base v1.len v1.cap)] (.one (.at .sl)) (fun (x1 : Sl) w2 =>
  Cl Tryz.prog 13 #[(.pointer v0), (.slice x1.base x1.len x1.cap)] (.one (.at (.int .i64))) (fun (x118 : Int) w119 =>
  Cd (x118 != 0) (q17again.j1 R v0 v2 v3 x1 true w119) (Cl Tryz.prog 13 #[(.pointer v0), (.slice x1.base x1.len x1.cap)] (.one (.at (.int .i64))) (fun (x120 : Int) w121 =>
  q17again.j1 R v0 v2 v3 x1 (x120 != 0) w121) w119)) w2) w
noncomputable def q17again.ann (R : EPq) : Ann :=
  .seq (.reg qN1) (.seq (.reg (.op 0 .now (.op 1 (.cl (.one qcS)) (.op 2 .now (.done))))) (.seq (.join [(0, qcP), (2, qcI), (3, qcI), (9, qcS), (32, .at .bool)] (fun s w => q17again.j1 R s.1 s.2.1 s.2.2.1 s.2.2.2.1 s.2.2.2.2.1 w) (.reg (.op 0 .now (.op 1 .now (.op 2 (.cl (.one qcI)) (.op 3 .now (.op 4 .now (.split 4 (.skip 5 (.skip 6 (.skip 7 (.skip 8 (.op 9 .now (.done)))))) (.op 5 .now (.op 6 .now (.op 7 (.cl (.one qcI)) (.op 8 .now (.op 9 .now (.done))))))))))))) (.cond (.seq (.reg qN1) (.leaf)) (.leaf))) (.seq (.reg (.op 0 .now (.op 1 (.cl (.one qcS)) (.op 2 .now (.done))))) (.seq (.seq (.reg qN1) (.block (.loop [(0, qcP), (2, qcI), (3, qcI), (9, qcS), (10, qcS), (11, qcI)] (fun k1 s w => q17again.b1 R k1 s.1 s.2.1 s.2.2.1 s.2.2.2.1 s.2.2.2.2.1 s.2.2.2.2.2.1 w) (fun k1 => .seq (.seq (.reg qN3) (.cond (.leaf) (.leaf))) (.seq (.block (.seq (.reg qN1) (.block (.loop [(0, qcP), (2, qcI), (3, qcI), (9, qcS), (10, qcS), (11, qcI), (12, qcI)] (fun k2 s w => q17again.b2 R k1 k2 s.1 s.2.1 s.2.2.1 s.2.2.2.1 s.2.2.2.2.1 s.2.2.2.2.2.1 s.2.2.2.2.2.2.1 w) (fun k2 => .seq (.seq (.reg (.op 0 .now (.op 1 .now (.op 2 .now (.op 3 qpA (.op 4 qrS (.op 5 .now (.op 6 .now (.done))))))))) (.cond (.leaf) (.leaf))) (.seq (.block (.reg (.op 0 .now (.op 1 .now (.op 2 qpA (.op 3 qrS (.op 4 .now (.op 5 qpA (.op 6 qrB (.op 7 .now (.op 8 .now (.op 9 .now (.op 10 .now (.op 11 qpA (.op 12 .wu (.done)))))))))))))))) (.reg qN3))))))) (.reg qN3)))))) (.seq (.reg (.op 0 .now (.op 1 (.cl (.one qcS)) (.op 2 .now (.done))))) (.seq (.join [(0, qcP), (2, qcI), (3, qcI), (9, qcS), (10, qcS), (13, qcS), (78, .at .bool)] (fun s w => q17again.j2 R s.1 s.2.1 s.2.2.1 s.2.2.2.1 s.2.2.2.2.1 s.2.2.2.2.2.1 s.2.2.2.2.2.2.1 w) (.reg (.op 0 .now (.op 1 .now (.op 2 (.cl (.one qcI)) (.op 3 .now (.op 4 .now (.split 4 (.skip 5 (.skip 6 (.skip 7 (.skip 8 (.op 9 .now (.op 10 .now (.skip 11 (.skip 12 (.skip 13 (.skip 14 (.op 15 .now (.done)))))))))))) (.op 5 .now (.op 6 .now (.op 7 (.cl (.one qcI)) (.op 8 .now (.op 9 .now (.op 10 .now (.split 10 (.skip 11 (.skip 12 (.skip 13 (.skip 14 (.op 15 .now (.done)))))) (.op 11 .now (.op 12 .now (.op 13 (.cl (.one (.at .bool))) (.op 14 .now (.op 15 .now (.done)))))))))))))))))))) (.cond (.seq (.reg qN1) (.leaf)) (.leaf))) (.seq (.reg (.op 0 .now (.op 1 (.wr (.one qcS)) (.op 2 .now (.done))))) (.seq (.reg (.op 0 .now (.op 1 (.wr (.one qcS)) (.op 2 .now (.op 3 .now (.op 4 qpA (.op 5 qrS (.op 6 (.wr (.one qcS)) (.op 7 qpA (.op 8 .wu (.done))))))))))) (.seq (.join [(0, qcP), (2, qcI), (3, qcI), (9, qcS), (10, qcS), (13, qcS), (14, qcS), (106, .at .bool)] (fun s w => q17again.j3 R s.1 s.2.1 s.2.2.1 s.2.2.2.1 s.2.2.2.2.1 s.2.2.2.2.2.1 s.2.2.2.2.2.2.1 s.2.2.2.2.2.2.2.1 w) (.reg (.op 0 .now (.op 1 .now (.op 2 .now (.op 3 (.cl (.one qcI)) (.op 4 .now (.op 5 .now (.split 5 (.skip 6 (.skip 7 (.skip 8 (.skip 9 (.skip 10 (.op 11 .now (.op 12 .now (.skip 13 (.skip 14 (.skip 15 (.skip 16 (.op 17 .now (.done))))))))))))) (.op 6 .now (.op 7 .now (.op 8 .now (.op 9 (.cl (.one qcI)) (.op 10 .now (.op 11 .now (.op 12 .now (.split 12 (.skip 13 (.skip 14 (.skip 15 (.skip 16 (.op 17 .now (.done)))))) (.op 13 .now (.op 14 .now (.op 15 (.cl (.one (.at .bool))) (.op 16 .now (.op 17 .now (.done)))))))))))))))))))))) (.cond (.seq (.reg qN1) (.leaf)) (.leaf))) (.seq (.seq (.reg qN1) (.block (.loop [(0, qcP), (2, qcI), (3, qcI), (9, qcS), (10, qcS), (13, qcS), (14, qcS), (15, qcI)] (fun k3 s w => q17again.b3 R k3 s.1 s.2.1 s.2.2.1 s.2.2.2.1 s.2.2.2.2.1 s.2.2.2.2.2.1 s.2.2.2.2.2.2.1 s.2.2.2.2.2.2.2.1 w) (fun k3 => .seq (.seq (.reg (.op 0 .now (.op 1 .now (.op 2 qpA (.op 3 qrS (.op 4 .now (.op 5 .now (.done)))))))) (.cond (.leaf) (.leaf))) (.seq (.block (.reg (.op 0 .now (.op 1 qpA (.op 2 qrS (.op 3 .now (.op 4 qpA (.op 5 qrB (.op 6 .now (.op 7 qpA (.op 8 .wu (.done)))))))))))) (.reg qN3)))))) (.seq (.join [(0, qcP), (2, qcI), (3, qcI), (10, qcS), (141, .at .bool)] (fun s w => q17again.j4 R s.1 s.2.1 s.2.2.1 s.2.2.2.1 s.2.2.2.2.1 w) (.reg (.op 0 .now (.op 1 .now (.op 2 .now (.op 3 (.cl (.one qcI)) (.op 4 .now (.op 5 .now (.split 5 (.skip 6 (.skip 7 (.skip 8 (.skip 9 (.skip 10 (.skip 11 (.op 12 .now (.op 13 .now (.skip 14 (.skip 15 (.skip 16 (.skip 17 (.op 18 .now (.done)))))))))))))) (.op 6 .now (.op 7 .now (.op 8 .now (.op 9 (.cl (.one qcS)) (.op 10 (.cl (.one qcI)) (.op 11 .now (.op 12 .now (.op 13 .now (.split 13 (.skip 14 (.skip 15 (.skip 16 (.skip 17 (.op 18 .now (.done)))))) (.op 14 .now (.op 15 .now (.op 16 (.cl (.one (.at .bool))) (.op 17 .now (.op 18 .now (.done))))))))))))))))))))))) (.cond (.seq (.reg qN1) (.leaf)) (.leaf))) (.seq (.reg (.op 0 .now (.op 1 (.cl (.one qcS)) (.op 2 .now (.done))))) (.seq (.reg (.op 0 .now (.op 1 qpA (.op 2 .wu (.done))))) (.seq (.join [(0, qcP), (2, qcI), (3, qcI), (10, qcS), (16, qcS), (155, .at .bool)] (fun s w => q17again.j5 R s.1 s.2.1 s.2.2.1 s.2.2.2.1 s.2.2.2.2.1 s.2.2.2.2.2.1 w) (.reg (.op 0 .now (.op 1 .now (.op 2 (.cl (.one qcI)) (.op 3 .now (.op 4 .now (.split 4 (.skip 5 (.skip 6 (.skip 7 (.skip 8 (.op 9 .now (.done)))))) (.op 5 .now (.op 6 .now (.op 7 (.cl (.one (.at .bool))) (.op 8 .now (.op 9 .now (.done))))))))))))) (.cond (.seq (.reg qN1) (.leaf)) (.leaf))) (.seq (.reg (.op 0 .now (.op 1 qpA (.op 2 qrS (.op 3 .now (.done)))))) (.seq (.seq (.reg qN1) (.block (.loop [(0, qcP), (2, qcI), (3, qcI), (10, qcS), (16, qcS), (17, qcS), (18, qcI)] (fun k4 s w => q17again.b4 R k4 s.1 s.2.1 s.2.2.1 s.2.2.2.1 s.2.2.2.2.1 s.2.2.2.2.2.1 s.2.2.2.2.2.2.1 w) (fun k4 => .seq (.seq (.reg qN5) (.cond (.leaf) (.leaf))) (.seq (.block (.seq (.reg qN1) (.block (.loop [(0, qcP), (2, qcI), (3, qcI), (10, qcS), (16, qcS), (17, qcS), (18, qcI), (19, qcI)] (fun k5 s w => q17again.b5 R k4 k5 s.1 s.2.1 s.2.2.1 s.2.2.2.1 s.2.2.2.2.1 s.2.2.2.2.2.1 s.2.2.2.2.2.2.1 s.2.2.2.2.2.2.2.1 w) (fun k5 => .seq (.seq (.reg (.op 0 .now (.op 1 .now (.op 2 .now (.op 3 qpA (.op 4 qrS (.op 5 .now (.op 6 .now (.done))))))))) (.cond (.leaf) (.leaf))) (.seq (.block (.reg (.op 0 .now (.op 1 .now (.op 2 qpA (.op 3 qrS (.op 4 .now (.op 5 qpA (.op 6 qrB (.op 7 .now (.op 8 .now (.op 9 .now (.op 10 .now (.op 11 .now (.op 12 qpA (.op 13 .wu (.done))))))))))))))))) (.reg qN3))))))) (.reg qN3)))))) (.seq (.reg (.op 0 .now (.op 1 (.cl (.one qcS)) (.op 2 .now (.done))))) (.seq (.reg (.op 0 .now (.op 1 qpA (.op 2 .wu (.done))))) (.seq (.reg (.op 0 .now (.op 1 qpA (.op 2 .wu (.done))))) (.seq (.join [(10, qcS), (17, qcS), (209, .at .bool)] (fun s w => q17again.j6 R s.1 s.2.1 s.2.2.1 w) (.reg (.op 0 .now (.op 1 .now (.op 2 (.cl (.one qcI)) (.op 3 .now (.op 4 .now (.split 4 (.skip 5 (.skip 6 (.skip 7 (.skip 8 (.op 9 .now (.op 10 .now (.skip 11 (.skip 12 (.skip 13 (.skip 14 (.op 15 .now (.done)))))))))))) (.op 5 .now (.op 6 .now (.op 7 (.cl (.one qcI)) (.op 8 .now (.op 9 .now (.op 10 .now (.split 10 (.skip 11 (.skip 12 (.skip 13 (.skip 14 (.op 15 .now (.done)))))) (.op 11 .now (.op 12 .now (.op 13 (.cl (.one (.at .bool))) (.op 14 .now (.op 15 .now (.done)))))))))))))))))))) (.cond (.seq (.reg qN1) (.leaf)) (.leaf))) (.seq (.reg (.op 0 .now (.op 1 .now (.op 2 qpA (.op 3 qrS (.op 4 (.cl (.one (.at .bool))) (.op 5 .now (.done)))))))) (.leaf))))))))))))))))))))))
theorem q17again.run (R : EPq) (v0 : (Option Addr)) (v1 : Sl) (v2 : Int) (v3 : Int) (w : World) (h : q17again.M R v0 v1 v2 v3 w) : Calls Tryz.prog 26 #[(.pointer v0), (.slice v1.base v1.len v1.cap), (.int .i64 v2), (.int .i64 v3)] w R := by
  refine calls_of_lift mix_eqf Tryz.func26 (c := q17again.body) (by kernel_rfl) [.at .bool] (q17again.ann R) 215 Tryz.ntmps26 [.tmp 8] (by kernel_rfl) (Nat.le_of_ble_eq_true (by kernel_rfl)) ?_ ?_
  · exact ⟨tv, ⟨tv, ⟨⟨fun s w => mq, tv, ⟨⟨tv, tv⟩, tv⟩⟩, ⟨tv, ⟨⟨tv, (fun k1 => ⟨fun s w => mq, ⟨⟨tv, ⟨tv, tv⟩⟩, ⟨⟨tv, (fun k2 => ⟨fun s w => mq, ⟨⟨tv, ⟨tv, tv⟩⟩, ⟨tv, tv⟩⟩⟩)⟩, tv⟩⟩⟩)⟩, ⟨tv, ⟨⟨fun s w => mq, tv, ⟨⟨tv, tv⟩, tv⟩⟩, ⟨tv, ⟨tv, ⟨⟨fun s w => mq, tv, ⟨⟨tv, tv⟩, tv⟩⟩, ⟨⟨tv, (fun k3 => ⟨fun s w => mq, ⟨⟨tv, ⟨tv, tv⟩⟩, ⟨tv, tv⟩⟩⟩)⟩, ⟨⟨fun s w => mq, tv, ⟨⟨tv, tv⟩, tv⟩⟩, ⟨tv, ⟨tv, ⟨⟨fun s w => mq, tv, ⟨⟨tv, tv⟩, tv⟩⟩, ⟨tv, ⟨⟨tv, (fun k4 => ⟨fun s w => mq, ⟨⟨tv, ⟨tv, tv⟩⟩, ⟨⟨tv, (fun k5 => ⟨fun s w => mq, ⟨⟨tv, ⟨tv, tv⟩⟩, ⟨tv, tv⟩⟩⟩)⟩, tv⟩⟩⟩)⟩, ⟨tv, ⟨tv, ⟨tv, ⟨⟨fun s w => mq, tv, ⟨⟨tv, tv⟩, tv⟩⟩, ⟨tv, tv⟩⟩⟩⟩⟩⟩⟩⟩⟩⟩⟩⟩⟩⟩⟩⟩⟩⟩⟩⟩⟩⟩
  · exact Eq.mp (show q17again.M R v0 v1 v2 v3 w = _ by kernel_rfl) h
end Go.Proofs.YtbiilejgfihohaaGreat
namespace Go.Proofs.YtbiilejgfihohaaGreat
open Go Go.Cu Go.RowKit
theorem u8_nat (n : Nat) : IntKind.wrap .u8 (n : Int) = ((BitVec.ofNat 8 n).toNat : Int) := by
  rw [wrap_u8_mod, BitVec.toNat_ofNat]
theorem givenM_ok {Fm : Mtx} {k n : Nat} (hl : Fm.length = k) (hn : ∀ x ∈ Fm, x.length = 0 ∨ x.length = n) : ∀ x ∈ givenM Fm, x < k ∧ (Fm.getD x []).length = n := by
  intro x hx
  unfold givenM at hx
  obtain ⟨hx1, hx2⟩ := List.mem_filter.1 hx
  have hx3 := List.mem_range.1 hx1
  refine ⟨by omega, ?_⟩
  obtain ⟨r, hr⟩ := atx hx3
  have := hn r (List.mem_of_getElem? hr)
  rw [getD_get hr] at hx2 ⊢
  have := of_decide_eq_true hx2
  omega
theorem givenM_nodup (Fm : Mtx) : (givenM Fm).Nodup := List.nodup_range.sublist List.filter_sublist
def upM (n k : Nat) (Q M Fm : Mtx) : Mtx := M.take k ++ updM 0 n Q M Fm (givenM Fm) (M.drop k)
theorem shp_up {n k m : Nat} {Q M Fm : Mtx} (hQ : Shp Q m k) (hM : Shp M (k + m) n) (hl : Fm.length = k) (hn : ∀ x ∈ Fm, x.length = 0 ∨ x.length = n) : Shp (upM n k Q M Fm) (k + m) n :=
  shp_append (shp_takeM hM) (updM_shp (fr := 0) (to := n) (n := n) (k := k) (Q := Q) (M := M) (Fm := Fm) (Nat.zero_le _) (Nat.le_refl _) hQ.1 (fun x hx => hM.row (by omega)) (givenM Fm) (M.drop k) (givenM_ok hl hn) (shp_dropM hM))
theorem ent_up {n k m r t : Nat} {Q M Fm : Mtx} (hQ : Shp Q m k) (hM : Shp M (k + m) n) (hl : Fm.length = k) (hn : ∀ x ∈ Fm, x.length = 0 ∨ x.length = n) (hr : r < k + m) (ht : t < n) :
    ent (upM n k Q M Fm) r t = if r < k then ent M r t else ent M r t ^^^ fsum k (fun c => if c ∈ givenM Fm then fmul (ent Q (r - k) c) (ent M c t ^^^ ent Fm c t) else 0#8) := by
  unfold upM
  rw [ent_append (shp_takeM hM)]
  by_cases h : r < k
  · rw [if_pos h, if_pos h, ent_take h]
  · rw [if_neg h, if_neg h, ent_upd (Nat.zero_le _) (Nat.le_refl _) hQ (fun x hx => hM.row (by omega)) (by omega) ht (givenM Fm) _ (givenM_nodup Fm) (givenM_ok hl hn) (shp_dropM hM), if_pos ⟨Nat.zero_le _, ht⟩, ent_drop, show k + (r - k) = r by omega]
theorem up_twice {n k m : Nat} {Q M Fm : Mtx} (hQ : Shp Q m k) (hM : Shp M (k + m) n) (hl : Fm.length = k) (hn : ∀ x ∈ Fm, x.length = 0 ∨ x.length = n) : upM n k Q (upM n k Q M Fm) Fm = M := by
  have h1 := shp_up hQ hM hl hn
  refine ext_rows (shp_up hQ h1 hl hn) hM fun r hr t ht => ?_
  rw [ent_up hQ h1 hl hn hr ht, ent_up hQ hM hl hn hr ht]
  by_cases h : r < k
  · rw [if_pos h, if_pos h]
  · rw [if_neg h, if_neg h]
    have e : fsum k (fun c => if c ∈ givenM Fm then fmul (ent Q (r - k) c) (ent (upM n k Q M Fm) c t ^^^ ent Fm c t) else 0#8) = fsum k (fun c => if c ∈ givenM Fm then fmul (ent Q (r - k) c) (ent M c t ^^^ ent Fm c t) else 0#8) :=
      fsum_congr fun c hc => by rw [ent_up hQ hM hl hn (by omega) ht, if_pos hc]
    rw [e, BitVec.xor_assoc, BitVec.xor_self, BitVec.xor_zero]
theorem upd_ok {W0 w : World} {T : Ths} {j : Nat} {a : CodA} {f : Int} {k m b n : Nat} {Q M Fm : Mtx} {es : List Tr.Ent} {clock : Int} {ks kf : Ky} {s sf : Sl} {hs hf : List Sl} (hS : Sep W0 w T) (hC : Cod T j a f k m b Q es clock) (hk : T ks = ShT s hs M) (hkb : ∀ i, ks ≠ .bx i)
    (hkf : T kf = ShT sf hf Fm) (hne : ks ≠ kf) (hks : ¬ UpK ks) (hkf' : ¬ UpK kf) (hM : Shp M (k + m) n) (hFl : Fm.length = k) (hFn : ∀ x ∈ Fm, x.length = 0 ∨ x.length = n) (hn1 : 1 ≤ n) (hn2 : n ≤ 1048576) :
    Cl Tryz.prog 19 #[.pointer (at0 a.cp), .slice s.base s.len s.cap, .slice sf.base sf.len sf.cap] (.one (.at (.int .i64)))
      (fun x w' => x = 0 ∧ ∃ T', Sep W0 w' T' ∧ T' ks = ShT s hs (upM n k Q M Fm) ∧ ∀ q, q ≠ ks → ¬ UpK q → T' q = T q) w := by
  have hgl : givenL hf k = givenM Fm := by
    have := givenL_eq (sh_matR hS hkf)
    rwa [hFl] at this
  have := update_ok hS hC hk hkb hkf hne hks hkf' hM hFl hFn hn1 hn2
  rw [hgl] at this
  exact this
theorem nilM_one {M : Mtx} (h : 0 < M.length) : nilM [true] M = M.set 0 [] := by
  refine List.ext_getElem? fun i => ?_
  by_cases hi : i < M.length
  · rw [nilM_at hi, List.getElem?_set]
    cases i with
    | zero => rw [if_pos rfl, if_pos h]; rfl
    | succ i =>
      rw [if_neg (by simp), if_neg (by simp), List.getD_eq_getElem?_getD, List.getElem?_eq_getElem hi]
      rfl
  · rw [List.getElem?_eq_none (by rw [nilM_len]; omega), List.getElem?_eq_none (by rw [List.length_set]; omega)]
theorem miss_one {M : Mtx} {r n : Nat} (h : Shp M r n) (hr : 1 ≤ r) (hn : 1 ≤ n) : (missL (nilM [true] M)).length = 1 := by
  have e : missL (nilM [true] M) = (List.range r).filter (fun x => decide (x = 0)) := by
    unfold missL
    rw [nilM_len, h.1]
    refine List.filter_congr fun i hi => ?_
    have hir := List.mem_range.1 hi
    rw [getD_get (nilM_at (by rw [h.1]; exact hir))]
    have := h.row hir
    cases i with
    | zero => rfl
    | succ i => rw [if_neg (by simp), decide_eq_false (by omega), decide_eq_false (by omega)]
  rw [e]
  have : ∀ r, 1 ≤ r → ((List.range r).filter (fun x => decide (x = 0))).length = 1 := by
    intro r
    induction r with
    | zero => intro h; omega
    | succ r ih =>
      intro _
      rw [List.range_succ, List.filter_append, List.length_append]
      cases r with
      | zero => rfl
      | succ r => rw [ih (by omega)]; simp
  exact this r hr
theorem fresh_one {W0 w : World} {T : Ths} {kf kx : Ky} {k : Nat} {s : Sl} {hs : List Sl} {M : Mtx} {rk : List F8} {K : Sl → World → Prop} (hne : kx ≠ kf) (hS : Sep W0 w T) (hk : T kx = ShT s hs M) (hk1 : 1 ≤ k) (hk2 : k ≤ 256) (hrk : M[k]? = some rk) (hl : rk.length ≤ 1048576)
    (hK : ∀ sfr hsF w', Sep W0 w' (T.up kf (ShT sfr hsF ((List.replicate k ([] : List F8)).set 0 rk))) → K sfr w') :
    Wr Tryz.prog (Instr.makeSlice 30 (.int .i64 (k : Int)) (.int .i64 (k : Int))) (.one (.at .sl)) (fun (x22 : Sl) w23 =>
    Wr Tryz.prog (Instr.buildSlice 24 0 #[]) (.one (.at .sl)) (fun (x24 : Sl) w25 =>
    Pu Tryz.prog (Instr.indexAt 30 (.slice s.base s.len s.cap) (.int .i64 (k : Int))) (.one (.at .addr)) (fun (x26 : Addr) w27 =>
    Rd Tryz.prog (Instr.loadAt 24 (.pointer (some x26))) (.one (.at .sl)) (fun (x28 : Sl) w29 =>
    Wr Tryz.prog (Builtin.append_ #[24, 24] 24 #[(.slice x24.base x24.len x24.cap), (.slice x28.base x28.len x28.cap)]) (.one (.at .sl)) (fun (x30 : Sl) w31 =>
    Pu Tryz.prog (Instr.indexAt 30 (.slice x22.base x22.len x22.cap) (.int .i64 0)) (.one (.at .addr)) (fun (x32 : Addr) w33 =>
    Wu Tryz.prog (Instr.storeAt 24 (.pointer (some x32)) (.slice x30.base x30.len x30.cap)) (K x22) w33) w31) w29) w27) w25) w23) w := by
  refine Wr_make (f := slV) (z := ⟨none, 0, 0⟩) tBB iS rfl k (by omega) (by omega) rfl rfl fun sfr w12 hsfr hB12 hx12 => ?_
  have hO12 : Own slV 24 w.heap.size w12 sfr (List.replicate k ⟨none, 0, 0⟩) := by rw [hsfr]; exact own_of_has (by simp) (by omega) hB12 (Nat.le_refl _)
  have hS12 := sh_init (k := kf) hS hx12 hO12
  have k120 : (T.up kf (ShT sfr (List.replicate k ⟨none, 0, 0⟩) (List.replicate k []))) kx = ShT s hs M := (Ths.up_ne _ _ hne).trans hk
  refine Wr_lit (f := f8v) (e := 5) (base := w12.heap.size) [] (by kernel_rfl) (Nat.le_refl _) (by simp) fun s13 w13 ho13 hx13 _ => ?_
  have hMR13 := (sh_matR hS12 k120).ex hx13
  have hkl := (List.getElem?_eq_some_iff.1 hrk).1
  obtain ⟨hk', hhk⟩ := atx (l := hs) (i := k) (by rw [hMR13.len]; exact hkl)
  refine rd_hdr hMR13.hdr hhk ?_
  refine Wr_append (f := f8v) (l := []) (base := w12.heap.size) tB iB rfl ho13 (hMR13.row k hk' rk hhk hrk) (fun _ => rfl) (by simp; omega) (by simp; omega) hx13.size fun d w14 ho14 hm14 hin14 => ?_
  rw [List.nil_append] at ho14
  have hx14 : Ex w12 w14 := hx13.into hm14 (fun b hb => (ho13.base b hb).1)
  have hF12 := Ths.up_same T kf (ShT sfr (List.replicate k ⟨none, 0, 0⟩) (List.replicate k []))
  obtain ⟨q1, q2, _⟩ := sh_get hS12 hF12
  refine Wu_set (f := slV) (x := d) (i := 0) (q1.ex hx14) (by rw [List.length_replicate]; omega) tBB sS sS rfl rfl fun w15 hO15 hm15 => ?_
  have hS15 := sh_new hS12 hF12 hx14 ho14 (by rw [List.length_replicate]; omega) hO15 hm15
  rw [Ths.up_up] at hS15
  exact hK sfr _ w15 hS15
theorem sh_nil {W0 w : World} {T : Ths} {k : Ky} {s : Sl} {hs : List Sl} {M : Mtx} {i : Nat} {K : World → Prop} (hS : Sep W0 w T) (hk : T k = ShT s hs M) (hi : i < M.length) (hK : ∀ w', Sep W0 w' (T.up k (ShT s (hs.set i ⟨none, 0, 0⟩) (M.set i []))) → K w') :
    Pu Tryz.prog (Instr.indexAt 30 (.slice s.base s.len s.cap) (.int .i64 (i : Int))) (.one (.at .addr)) (fun (x79 : Addr) w80 =>
    Wu Tryz.prog (Instr.storeAt 24 (.pointer (some x79)) (.slice none 0 0)) K w80) w := by
  obtain ⟨q1, q2, _⟩ := sh_get hS hk
  refine Wu_set (f := slV) (x := ⟨none, 0, 0⟩) (i := i) q1 (by rw [q2]; exact hi) tBB sS sS rfl rfl fun w15 hO15 hm15 => ?_
  exact hK w15 (sh_new hS hk (Ex.refl w) (Own.nil _ _ _ _) (by rw [q2]; exact hi) hO15 hm15)
end Go.Proofs.YtbiilejgfihohaaGreat
namespace Go.Proofs.YtbiilejgfihohaaGreat
open Go Go.Cu Go.RowKit
def AgK (q : Ky) : Prop := ∃ i, q = .mx 3 i
theorem ag_gv (j i : Nat) : ¬ GvK j (.mx 3 i) := by unfold GvK PlK GnK; simp
theorem ag_up (i : Nat) : ¬ UpK (.mx 3 i) := by unfold UpK; simp
theorem recon_one {W0 w : World} {T : Ths} {j : Nat} {a : CodA} {f : Int} {k m b n : Nat} {Q M : Mtx} {es : List Tr.Ent} {clock : Int} {ks : Ky} {s : Sl} {hs : List Sl} (hS : Sep W0 w T) (hC : Cod T j a f k m b Q es clock) (hk : T ks = ShT s hs (nilM [true] M)) (hkb : ∀ i, ks ≠ .bx i) (hkg : ¬ GvK j ks)
    (hM : Shp M (k + m) n) (hn1 : 1 ≤ n) (hn2 : n ≤ 1048576) (hcl : clock < 4611686018427387904) :
    Cl Tryz.prog 21 #[.pointer (at0 a.cp), .slice s.base s.len s.cap] (.one (.at (.int .i64))) (fun x w' => x = 0 ∧ ∃ T' hs' D es' clock', Sep W0 w' T' ∧ decM k (gM k Q) (presL k (k + m) (missL (nilM [true] M))) (missL (nilM [true] M)) = some D ∧
      T' ks = ShT s hs' (giveM false k n (usedM (nilM [true] M) (presL k (k + m) (missL (nilM [true] M)))) ((missL (nilM [true] M)).zip D) (nilM [true] M)) ∧ Cod T' j a f k m b Q es' clock' ∧ clock' ≤ clock + 1 ∧ ∀ q, ¬ GvK j q → q ≠ ks → T' q = T q) w := by
  have hk1 := hC.hk1
  have hm1 := hC.hm1
  have h1 := miss_one hM (by omega) hn1
  refine Cl_mono (recon_ok hS hC hk hkb hkg ((nilM_len _ _).trans hM.1) (nilM_rows hM) (by omega) hn1 hn2 hcl) ?_
  rintro x w' (⟨h, _⟩ | ⟨h, _⟩ | ⟨_, hx, T', hs', D, es', clock', a1, a2, a3, a4, a5, _, a6⟩)
  · rw [h] at h1; cases h1
  · omega
  · exact ⟨hx, T', hs', D, es', clock', a1, a2, a3, a4, a5, a6⟩
theorem again_ok {W0 w : World} {T : Ths} {j : Nat} {a : CodA} {f : Int} {k m b n : Nat} {Q M : Mtx} {es : List Tr.Ent} {clock : Int} {ks : Ky} {s : Sl} {hs : List Sl} (hS : Sep W0 w T) (hC : Cod T j a f k m b Q es clock) (hk : T ks = ShT s hs M) (hks : ∀ i, ks ≠ .mx 3 i)
    (hM : Shp M (k + m) n) (hn1 : 1 ≤ n) (hn2 : n ≤ 1048576) (hcl : clock + 3 < 4611686018427387904) :
    Cl Tryz.prog 26 #[.pointer (at0 a.cp), .slice s.base s.len s.cap, .int .i64 (k : Int), .int .i64 (m : Int)] (.one (.at .bool)) (fun x w' => x = true ∧ ∃ T' es' clock', Sep W0 w' T' ∧ Cod T' j a f k m b Q es' clock' ∧ clock' ≤ clock + 3 ∧ ∀ q, ¬ AgK q → ¬ GvK j q → ¬ UpK q → T' q = T q) w := by
  refine q17again.run _ (at0 a.cp) s (k : Int) (m : Int) w ?_
  generalize hRR : (fun (e : Ending) (w' : World) => ∃ x : Bool, e = .returned ((Sh.one (.at .bool)).enc x) ∧ x = true ∧ ∃ T' es' clock', Sep W0 w' T' ∧ Cod T' j a f k m b Q es' clock' ∧ clock' ≤ clock + 3 ∧ ∀ q, ¬ AgK q → ¬ GvK j q → ¬ UpK q → T' q = T q) = R
  unfold q17again.M
  have hk1 := hC.hk1
  have hm1 := hC.hm1
  have hkm := hC.hkm
  obtain ⟨hQ, hMds⟩ := hC.shp
  have row16 : ∀ {M : Mtx}, Shp M (k + m) n → M.length ≤ 65536 ∧ ∀ r ∈ M, r.length ≤ 1048576 := fun h => ⟨by rw [h.1]; omega, fun r hr => by rw [h.2 r hr]; omega⟩
  refine Cl_mono (copied_ok (.mx 3 0) hS (fun w' T' h' hT' => sh_matR h' ((hT' _ (hks 0)).trans hk)) (row16 hM).1 (row16 hM).2) ?_
  rintro sx w1 ⟨hsx, hS1⟩
  have hC1 := hC.next (T' := T.up (.mx 3 0) (ShT sx hsx M)) (fun i => Ths.up_ne _ _ (by simp))
  refine Cl_mono (encode_ok hS1 hC1 (Ths.up_same _ _ _) (by simp) hM hn1 hn2) ?_
  rintro _ w2 ⟨rfl, hS2⟩
  rw [Ths.up_up] at hS2
  refine Cd_f ?_
  have hM1 := shp_enc (fr := 0) (Nat.zero_le _) (Nat.le_refl n) hQ hM
  generalize encM 0 n n k Q M = M1 at hS2 hM1
  have hC2 := hC.next (T' := T.up (.mx 3 0) (ShT sx hsx M1)) (fun i => Ths.up_ne _ _ (by simp))
  refine Cl_mono (encode_ok hS2 hC2 (Ths.up_same _ _ _) (by simp) hM1 hn1 hn2) ?_
  rintro _ w3 ⟨rfl, hS3⟩
  rw [Ths.up_up] at hS3
  have hM2 := shp_enc (fr := 0) (Nat.zero_le _) (Nat.le_refl n) hQ hM1
  have hcol2 : ∀ t, t < n → Col k m Q (encM 0 n n k Q M1) t := fun t ht => col_enc (Nat.zero_le _) (Nat.le_refl _) hQ hM1 (Nat.zero_le _) ht
  generalize encM 0 n n k Q M1 = M2 at hS3 hM2 hcol2
  unfold q17again.j1
  refine Cd_f ?_
  refine Cl_mono (copied_ok (.mx 3 1) hS3 (fun w' T' h' hT' => sh_matR h' ((hT' _ (by simp)).trans (Ths.up_same _ _ _))) (row16 hM2).1 (row16 hM2).2) ?_
  rintro sf w4 ⟨hsf, hS4⟩
  obtain ⟨T4, hT4e⟩ : ∃ T4, T4 = (T.up (.mx 3 0) (ShT sx hsx M2)).up (.mx 3 1) (ShT sf hsf M2) := ⟨_, rfl⟩
  rw [← hT4e] at hS4
  have x4 : T4 (.mx 3 0) = ShT sx hsx M2 := by rw [hT4e, Ths.up_ne _ _ (by simp), Ths.up_same]
  have f4 : T4 (.mx 3 1) = ShT sf hsf M2 := by rw [hT4e, Ths.up_same]
  have fr4 : ∀ q, ¬ AgK q → T4 q = T q := fun q hq => by rw [hT4e, Ths.up_ne _ _ (fun e => hq ⟨_, e⟩), Ths.up_ne _ _ (fun e => hq ⟨_, e⟩)]
  have hC4 : Cod T4 j a f k m b Q es clock := hC.next (fun i => fr4 _ (fun ⟨_, e⟩ => by cases e))
  unfold q17again.l1
  refine loopW_of (fun st w' => ∃ (i : Nat) (X : Mtx) (T' : Ths), st = (at0 a.cp, (k : Int), (m : Int), sx, sf, (i : Int), ()) ∧ i ≤ k ∧ Sep W0 w' T' ∧ T' (.mx 3 0) = ShT sx hsx X ∧ Shp X (k + m) n ∧ ∀ q, q ≠ .mx 3 0 → T' q = T4 q) (fun st _ => ((k : Int) - st.2.2.2.2.2.1).toNat) ?_
    ⟨0, M2, T4, rfl, Nat.zero_le _, hS4, x4, hM2, fun _ _ => rfl⟩
  rintro q1 _ w5 ⟨i, X, T5, rfl, hi, hS5, x5, hX, fr5⟩ hq1
  unfold q17again.b1
  dsimp only at hq1 ⊢
  refine Cd_dec (fun hlt => ?_) (fun hge => ?_)
  · have hik : i < k := by omega
    unfold q17again.l2
    refine loopW_of (fun st w' => ∃ (t : Nat) (X : Mtx) (T' : Ths), st = (at0 a.cp, (k : Int), (m : Int), sx, sf, (i : Int), (t : Int), ()) ∧ t ≤ n ∧ Sep W0 w' T' ∧ T' (.mx 3 0) = ShT sx hsx X ∧ Shp X (k + m) n ∧ ∀ q, q ≠ .mx 3 0 → T' q = T4 q) (fun st _ => ((n : Int) - st.2.2.2.2.2.2.1).toNat) ?_
      ⟨0, X, T5, rfl, Nat.zero_le _, hS5, x5, hX, fr5⟩
    rintro q2 _ w6 ⟨t, X6, T6, rfl, ht, hS6, x6, hX6, fr6⟩ hq2
    unfold q17again.b2
    dsimp only at hq2 ⊢
    have hMR6 := sh_matR hS6 x6
    obtain ⟨h, hh⟩ := atx (l := hsx) (i := i) (by rw [hMR6.len, hX6.1]; omega)
    have hhl := hMR6.lenS hX6.2 h (List.mem_of_getElem? hh)
    refine rd_hdr hMR6.hdr hh ?_
    rw [hhl]
    refine Cd_dec (fun hlt3 => ?_) (fun hge3 => ?_)
    · obtain ⟨r, hr, hrl⟩ := row_at hX6 (show i < k + m by omega)
      obtain ⟨x, hx⟩ := atx (l := r) (i := t) (by omega)
      refine rd_hdr hMR6.hdr hh ?_
      refine rd_ent (hMR6.row i h r hh hr) hx ?_
      rw [wrap64 (x := (i : Int) + 1) (by omega) (by omega), show (i : Int) + 1 = ((i + 1 : Nat) : Int) by omega, u8_nat, bXor_f8]
      refine st_sh (x := x ^^^ BitVec.ofNat 8 (i + 1)) hS6 x6 hh hr (by omega) fun w7 hS7 hm7 => ?_
      rw [wrap64 (x := (t : Int) + 1) (by omega) (by omega), show (t : Int) + 1 = ((t + 1 : Nat) : Int) by omega]
      exact hq2 _ _ ⟨t + 1, _, _, rfl, by omega, hS7, Ths.up_same _ _ _, hX6.set (by rw [List.length_set]; exact hrl), fun q hq => by rw [Ths.up_ne _ _ hq]; exact fr6 q hq⟩ (by dsimp only; omega)
    · rw [wrap64 (x := (i : Int) + 1) (by omega) (by omega), show (i : Int) + 1 = ((i + 1 : Nat) : Int) by omega]
      exact hq1 _ _ ⟨i + 1, X6, T6, rfl, by omega, hS6, x6, hX6, fr6⟩ (by dsimp only; omega)
  clear hq1
  refine Cl_mono (copied_ok (.mx 3 2) hS5 (fun w' T' h' hT' => sh_matR h' ((hT' _ (by simp)).trans x5)) (row16 hX).1 (row16 hX).2) ?_
  rintro sy w6 ⟨hsy, hS6⟩
  have x6 : (T5.up (.mx 3 2) (ShT sy hsy X)) (.mx 3 0) = ShT sx hsx X := (Ths.up_ne _ _ (by simp)).trans x5
  have hC5 : Cod T5 j a f k m b Q es clock := hC4.next (fun i => fr5 _ (by simp))
  have hC6 := hC5.next (T' := T5.up (.mx 3 2) (ShT sy hsy X)) (fun i => Ths.up_ne _ _ (by simp))
  refine Cl_mono (encode_ok hS6 hC6 x6 (by simp) hX hn1 hn2) ?_
  rintro _ w7 ⟨rfl, hS7⟩
  refine Cd_f ?_
  have hC7 := hC6.next (T' := (T5.up (.mx 3 2) (ShT sy hsy X)).up (.mx 3 0) (ShT sx hsx (encM 0 n n k Q X))) (fun i => Ths.up_ne _ _ (by simp))
  refine Cl_mono (encode_ok hS7 hC7 (ks := .mx 3 2) (by rw [Ths.up_ne _ _ (by simp), Ths.up_same]) (by simp) hX hn1 hn2) ?_
  rintro _ w8 ⟨rfl, hS8⟩
  refine Cd_f ?_
  have hX3 := shp_enc (fr := 0) (Nat.zero_le _) (Nat.le_refl n) hQ hX
  generalize encM 0 n n k Q X = X3 at hS8 hX3
  obtain ⟨T8, hT8e⟩ : ∃ T8, T8 = ((T5.up (.mx 3 2) (ShT sy hsy X)).up (.mx 3 0) (ShT sx hsx X3)).up (.mx 3 2) (ShT sy hsy X3) := ⟨_, rfl⟩
  rw [← hT8e] at hS8
  have x8 : T8 (.mx 3 0) = ShT sx hsx X3 := by rw [hT8e, Ths.up_ne _ _ (by simp), Ths.up_same]
  have y8 : T8 (.mx 3 2) = ShT sy hsy X3 := by rw [hT8e, Ths.up_same]
  have fr8 : ∀ q, q ≠ .mx 3 0 → q ≠ .mx 3 2 → T8 q = T4 q := fun q a1 a2 => by rw [hT8e, Ths.up_ne _ _ a2, Ths.up_ne _ _ a1, Ths.up_ne _ _ a2]; exact fr5 q a1
  have hC8 : Cod T8 j a f k m b Q es clock := hC4.next (fun i => fr8 _ (by simp) (by simp))
  have like : ∀ {w : World} {T' : Ths} {k1 k2 : Ky} {s1 s2 : Sl} {h1 h2 : List Sl} {M : Mtx} {K : Bool → World → Prop}, Sep W0 w T' → T' k1 = ShT s1 h1 M → T' k2 = ShT s2 h2 M → M.length ≤ 65536 → (∀ r ∈ M, r.length ≤ 1048576) → (∀ w', Sep W0 w' T' → K true w') →
      Cl Tryz.prog 20 #[.slice s1.base s1.len s1.cap, .slice s2.base s2.len s2.cap] (.one (.at .bool)) K w := by
    intro w T' k1 k2 s1 s2 h1 h2 M K c1 c2 c3 c4 c5 c6
    refine Cl_gv (d := .one (.at .bool)) (x := true) (by have := alike_gv (sh_matR c1 c2) (sh_matR c1 c3) c4 c5; rw [decide_eq_true rfl] at this; exact this) fun w' hx' => c6 w' (c1.exx hx')
  refine like hS8 x8 y8 (row16 hX3).1 (row16 hX3).2 fun w9 hS9 => ?_
  unfold q17again.j2
  refine Cd_f ?_
  obtain ⟨rk, hrk, hrkl⟩ := row_at hX3 (show k < k + m by omega)
  refine fresh_one (kf := .mx 3 3) (kx := .mx 3 0) (by simp) hS9 x8 hk1 (by omega) hrk (by omega) fun sfr hsF w10 hS10 => ?_
  obtain ⟨Fm, hFmE⟩ : ∃ Fm, Fm = (List.replicate k ([] : List F8)).set 0 rk := ⟨_, rfl⟩
  have hFl : Fm.length = k := by rw [hFmE, List.length_set, List.length_replicate]
  have hFn : ∀ x ∈ Fm, x.length = 0 ∨ x.length = n := by
    intro x hx
    rw [hFmE] at hx
    rcases List.mem_or_eq_of_mem_set hx with h' | rfl
    · rw [(List.mem_replicate.1 h').2]; exact .inl rfl
    · exact .inr hrkl
  have hF0 : Fm[0]? = some rk := by rw [hFmE, List.getElem?_set, if_pos rfl, if_pos (by rw [List.length_replicate]; omega)]
  rw [← hFmE] at hS10
  clear hFmE
  obtain ⟨T10, hT10e⟩ : ∃ T10, T10 = T8.up (.mx 3 3) (ShT sfr hsF Fm) := ⟨_, rfl⟩
  rw [← hT10e] at hS10
  have n10 : ∀ q, q ≠ .mx 3 3 → T10 q = T8 q := fun q hq => by rw [hT10e, Ths.up_ne _ _ hq]
  have hC10 : Cod T10 j a f k m b Q es clock := hC8.next (fun i => n10 _ (by simp))
  have F10 : T10 (.mx 3 3) = ShT sfr hsF Fm := by rw [hT10e, Ths.up_same]
  refine Cl_mono (upd_ok (ks := .mx 3 0) (kf := .mx 3 3) hS10 hC10 ((n10 _ (by simp)).trans x8) (by simp) F10 (by simp) (ag_up 0) (ag_up 3) hX3 hFl hFn hn1 hn2) ?_
  rintro _ w11 ⟨rfl, T11, hS11, x11, fr11⟩
  refine Cd_f ?_
  have bup : ∀ i, ¬ UpK (.bx i) := fun i => by unfold UpK; simp
  have hC11 : Cod T11 j a f k m b Q es clock := hC10.next (fun i => fr11 _ (by simp) (bup i))
  have hU := shp_up hQ hX3 hFl hFn
  refine Cl_mono (upd_ok (ks := .mx 3 0) (kf := .mx 3 3) hS11 hC11 x11 (by simp) ((fr11 _ (by simp) (ag_up 3)).trans F10) (by simp) (ag_up 0) (ag_up 3) hU hFl hFn hn1 hn2) ?_
  rintro _ w12 ⟨rfl, T12, hS12, x12, fr12⟩
  refine Cd_f ?_
  rw [up_twice hQ hX3 hFl hFn] at x12
  have n12 : ∀ q, q ≠ .mx 3 0 → q ≠ .mx 3 3 → ¬ UpK q → T12 q = T8 q := fun q a1 a2 a3 => (fr12 q a1 a3).trans ((fr11 q a1 a3).trans (n10 q a2))
  have y12 : T12 (.mx 3 2) = ShT sy hsy X3 := (n12 _ (by simp) (by simp) (ag_up 2)).trans y8
  have F12 : T12 (.mx 3 3) = ShT sfr hsF Fm := (fr12 _ (by simp) (ag_up 3)).trans ((fr11 _ (by simp) (ag_up 3)).trans F10)
  have hC12 : Cod T12 j a f k m b Q es clock := hC11.next (fun i => fr12 _ (by simp) (bup i))
  refine like hS12 x12 y12 (row16 hX3).1 (row16 hX3).2 fun w13 hS13 => ?_
  unfold q17again.j3
  refine Cd_f ?_
  unfold q17again.l3
  refine loopW_of (fun st w' => ∃ (t : Nat) (Fm : Mtx) (r : List F8) (T' : Ths), st = (at0 a.cp, (k : Int), (m : Int), sx, sf, sy, sfr, (t : Int), ()) ∧ t ≤ n ∧ Sep W0 w' T' ∧ T' (.mx 3 3) = ShT sfr hsF Fm ∧ Fm.length = k ∧ (∀ x ∈ Fm, x.length = 0 ∨ x.length = n) ∧ Fm[0]? = some r ∧ r.length = n ∧ ∀ q, q ≠ .mx 3 3 → T' q = T12 q) (fun st _ => ((n : Int) - st.2.2.2.2.2.2.2.1).toNat) ?_
    ⟨0, Fm, rk, T12, rfl, Nat.zero_le _, hS13, F12, hFl, hFn, hF0, hrkl, fun _ _ => rfl⟩
  rintro q3 _ w14 ⟨t, Fn, r, T14, rfl, ht, hS14, F14, hFl', hFn', hF0', hrl', fr14⟩ hq3
  unfold q17again.b3
  dsimp only at hq3 ⊢
  have hMR14 := sh_matR hS14 F14
  obtain ⟨h0, hh0⟩ := atx (l := hsF) (i := 0) (by rw [hMR14.len, hFl']; omega)
  have hh0l := (hMR14.row 0 h0 r hh0 hF0').1
  refine rd_hdr (i := 0) hMR14.hdr hh0 ?_
  rw [hh0l, hrl']
  refine Cd_dec (fun hlt3 => ?_) (fun hge3 => ?_)
  · obtain ⟨x, hx⟩ := atx (l := r) (i := t) (by omega)
    refine rd_hdr (i := 0) hMR14.hdr hh0 ?_
    refine rd_ent (hMR14.row 0 h0 r hh0 hF0') hx ?_
    rw [show (77 : Int) = (((77#8 : F8).toNat : Nat) : Int) from rfl, bXor_f8]
    refine st_sh (x := x ^^^ 77#8) hS14 F14 hh0 hF0' (by omega) fun w15 hS15 hm15 => ?_
    rw [wrap64 (x := (t : Int) + 1) (by omega) (by omega), show (t : Int) + 1 = ((t + 1 : Nat) : Int) by omega]
    refine hq3 _ _ ⟨t + 1, _, _, _, rfl, by omega, hS15, Ths.up_same _ _ _, by rw [List.length_set]; exact hFl', fun y hy => ?_, by rw [List.getElem?_set, if_pos rfl, if_pos (by omega)], by rw [List.length_set]; exact hrl', fun q hq => by rw [Ths.up_ne _ _ hq]; exact fr14 q hq⟩ (by dsimp only; omega)
    rcases List.mem_or_eq_of_mem_set hy with h' | rfl
    · exact hFn' y h'
    · right; rw [List.length_set]; exact hrl'
  clear hq3
  have hC14 : Cod T14 j a f k m b Q es clock := hC12.next (fun i => fr14 _ (by simp))
  have fr16 : Fn.length ≤ 65536 ∧ ∀ r ∈ Fn, r.length ≤ 1048576 := ⟨by omega, fun r hr => by have := hFn' r hr; omega⟩
  refine Cl_mono (upd_ok (ks := .mx 3 0) (kf := .mx 3 3) hS14 hC14 ((fr14 _ (by simp)).trans x12) (by simp) F14 (by simp) (ag_up 0) (ag_up 3) hX3 hFl' hFn' hn1 hn2) ?_
  rintro _ w15 ⟨rfl, T15, hS15, x15, fr15⟩
  refine Cd_f ?_
  have F15 : T15 (.mx 3 3) = ShT sfr hsF Fn := (fr15 _ (by simp) (ag_up 3)).trans F14
  refine Cl_mono (copied_ok (.mx 3 4) hS15 (fun w' T' h' hT' => sh_matR h' ((hT' _ (by simp)).trans F15)) fr16.1 fr16.2) ?_
  rintro sg w16 ⟨hsg, hS16⟩
  obtain ⟨T16, hT16e⟩ : ∃ T16, T16 = T15.up (.mx 3 4) (ShT sg hsg Fn) := ⟨_, rfl⟩
  rw [← hT16e] at hS16
  have n16 : ∀ q, q ≠ .mx 3 4 → T16 q = T15 q := fun q hq => by rw [hT16e, Ths.up_ne _ _ hq]
  have hC16 : Cod T16 j a f k m b Q es clock := hC14.next (fun i => (n16 _ (by simp)).trans (fr15 _ (by simp) (bup i)))
  have y16 : T16 (.mx 3 2) = ShT sy hsy X3 := (n16 _ (by simp)).trans ((fr15 _ (by simp) (ag_up 2)).trans ((fr14 _ (by simp)).trans y12))
  refine Cl_mono (upd_ok (ks := .mx 3 2) (kf := .mx 3 4) hS16 hC16 y16 (by simp) (by rw [hT16e, Ths.up_same]) (by simp) (ag_up 2) (ag_up 4) hX3 hFl' hFn' hn1 hn2) ?_
  rintro _ w17 ⟨rfl, T17, hS17, y17, fr17⟩
  refine Cd_f ?_
  have hV := shp_up hQ hX3 hFl' hFn'
  have x17 : T17 (.mx 3 0) = ShT sx hsx (upM n k Q X3 Fn) := (fr17 _ (by simp) (ag_up 0)).trans ((n16 _ (by simp)).trans x15)
  have hC17 : Cod T17 j a f k m b Q es clock := hC16.next (fun i => fr17 _ (by simp) (bup i))
  have n17 : ∀ q, (∀ i, i ≠ 1 → q ≠ .mx 3 i) → ¬ UpK q → T17 q = T4 q := fun q a1 a2 => (fr17 q (a1 2 (by omega)) a2).trans ((n16 q (a1 4 (by omega))).trans ((fr15 q (a1 0 (by omega)) a2).trans ((fr14 q (a1 3 (by omega))).trans ((n12 q (a1 0 (by omega)) (a1 3 (by omega)) a2).trans (fr8 q (a1 0 (by omega)) (a1 2 (by omega)))))))
  have f17 : T17 (.mx 3 1) = ShT sf hsf M2 := (n17 _ (fun i hi => by simpa using fun h => hi h.symm) (ag_up 1)).trans f4
  refine like hS17 x17 y17 (row16 hV).1 (row16 hV).2 fun w18 hS18 => ?_
  unfold q17again.j4
  refine Cd_f ?_
  refine Cl_mono (copied_ok (.mx 3 5) hS18 (fun w' T' h' hT' => sh_matR h' ((hT' _ (by simp)).trans f17)) (row16 hM2).1 (row16 hM2).2) ?_
  rintro sz w19 ⟨hsz, hS19⟩
  have hM2l : 0 < M2.length := by rw [hM2.1]; omega
  refine sh_nil (i := 0) hS19 (Ths.up_same _ _ _) hM2l fun w20 hS20 => ?_
  rw [Ths.up_up, ← nilM_one hM2l] at hS20
  generalize hsz.set 0 ⟨none, 0, 0⟩ = hsz0 at hS20
  obtain ⟨T20, hT20e⟩ : ∃ T20, T20 = T17.up (.mx 3 5) (ShT sz hsz0 (nilM [true] M2)) := ⟨_, rfl⟩
  rw [← hT20e] at hS20
  have n20 : ∀ q, q ≠ .mx 3 5 → T20 q = T17 q := fun q hq => by rw [hT20e, Ths.up_ne _ _ hq]
  have z20 : T20 (.mx 3 5) = ShT sz hsz0 (nilM [true] M2) := by rw [hT20e, Ths.up_same]
  have hC20 : Cod T20 j a f k m b Q es clock := hC17.next (fun i => n20 _ (by simp))
  refine Cl_mono (recon_one hS20 hC20 z20 (by simp) (ag_gv j 5) hM2 hn1 hn2 (by omega)) ?_
  rintro _ w21 ⟨rfl, T21, hsz1, D, es1, cl1, hS21, hD, z21, hC21, hcl1, n21⟩
  refine Cd_f ?_
  have hgb := give_back false hQ hMds hM2 hn1 hcol2 (by rw [miss_one hM2 (by omega) hn1]; omega) hD
  rw [hgb, if_neg (by simp)] at z21
  have f21 : T21 (.mx 3 1) = ShT sf hsf M2 := (n21 _ (ag_gv j 1) (by simp)).trans ((n20 _ (by simp)).trans f17)
  refine like hS21 z21 f21 (row16 hM2).1 (row16 hM2).2 fun w22 hS22 => ?_
  unfold q17again.j5
  refine Cd_f ?_
  have hMR22 := sh_matR hS22 z21
  obtain ⟨r0, hr0, hr0l⟩ := row_at hM2 (show 0 < k + m by omega)
  obtain ⟨g0, hg0⟩ := atx (l := hsz1) (i := 0) (by rw [hMR22.len]; exact hM2l)
  refine rd_hdr (i := 0) hMR22.hdr hg0 ?_
  unfold q17again.l4
  refine loopW_of (fun st w' => ∃ (i : Nat) (Z : Mtx) (T' : Ths), st = (at0 a.cp, (k : Int), (m : Int), sf, sz, g0, (i : Int), ()) ∧ 1 ≤ i ∧ i ≤ k + m ∧ Sep W0 w' T' ∧ T' (.mx 3 5) = ShT sz hsz1 Z ∧ Shp Z (k + m) n ∧ Z[0]? = some r0 ∧ ∀ q, q ≠ .mx 3 5 → T' q = T21 q) (fun st _ => (((k + m : Nat) : Int) - st.2.2.2.2.2.2.1).toNat) ?_
    ⟨1, M2, T21, rfl, by omega, by omega, hS22, z21, hM2, hr0, fun _ _ => rfl⟩
  rintro q4 _ w23 ⟨i, Z, T23, rfl, hi1, hi2, hS23, z23, hZ, hZ0, n23⟩ hq4
  unfold q17again.b4
  dsimp only at hq4 ⊢
  rw [wrap64 (x := (k : Int) + (m : Int)) (by omega) (by omega)]
  refine Cd_dec (fun hlt => ?_) (fun hge => ?_)
  · have hik : i < k + m := by omega
    unfold q17again.l5
    refine loopW_of (fun st w' => ∃ (t : Nat) (Z : Mtx) (T' : Ths), st = (at0 a.cp, (k : Int), (m : Int), sf, sz, g0, (i : Int), (t : Int), ()) ∧ t ≤ n ∧ Sep W0 w' T' ∧ T' (.mx 3 5) = ShT sz hsz1 Z ∧ Shp Z (k + m) n ∧ Z[0]? = some r0 ∧ ∀ q, q ≠ .mx 3 5 → T' q = T21 q) (fun st _ => ((n : Int) - st.2.2.2.2.2.2.2.1).toNat) ?_
      ⟨0, Z, T23, rfl, Nat.zero_le _, hS23, z23, hZ, hZ0, n23⟩
    rintro q5 _ w24 ⟨t, Z6, T24, rfl, ht, hS24, z24, hZ6, hZ60, n24⟩ hq5
    unfold q17again.b5
    dsimp only at hq5 ⊢
    have hMR6 := sh_matR hS24 z24
    obtain ⟨h, hh⟩ := atx (l := hsz1) (i := i) (by rw [hMR6.len, hZ6.1]; omega)
    have hhl := hMR6.lenS hZ6.2 h (List.mem_of_getElem? hh)
    refine rd_hdr hMR6.hdr hh ?_
    rw [hhl]
    refine Cd_dec (fun hlt3 => ?_) (fun hge3 => ?_)
    · obtain ⟨r, hr, hrl⟩ := row_at hZ6 hik
      obtain ⟨x, hx⟩ := atx (l := r) (i := t) (by omega)
      refine rd_hdr hMR6.hdr hh ?_
      refine rd_ent (hMR6.row i h r hh hr) hx ?_
      rw [wrap64 (x := 3 * (i : Int)) (by omega) (by omega), wrap64 (x := 3 * (i : Int) + 1) (by omega) (by omega), show 3 * (i : Int) + 1 = ((3 * i + 1 : Nat) : Int) by omega, u8_nat, bXor_f8]
      refine st_sh (x := x ^^^ BitVec.ofNat 8 (3 * i + 1)) hS24 z24 hh hr (by omega) fun w7 hS7 hm7 => ?_
      rw [wrap64 (x := (t : Int) + 1) (by omega) (by omega), show (t : Int) + 1 = ((t + 1 : Nat) : Int) by omega]
      exact hq5 _ _ ⟨t + 1, _, _, rfl, by omega, hS7, Ths.up_same _ _ _, hZ6.set (by rw [List.length_set]; exact hrl), by rw [List.getElem?_set_ne (by omega)]; exact hZ60, fun q hq => by rw [Ths.up_ne _ _ hq]; exact n24 q hq⟩ (by dsimp only; omega)
    · rw [wrap64 (x := (i : Int) + 1) (by omega) (by omega), show (i : Int) + 1 = ((i + 1 : Nat) : Int) by omega]
      exact hq4 _ _ ⟨i + 1, Z6, T24, rfl, by omega, by omega, hS24, z24, hZ6, hZ60, n24⟩ (by dsimp only; omega)
  clear hq4
  refine Cl_mono (copied_ok (.mx 3 6) hS23 (fun w' T' h' hT' => sh_matR h' ((hT' _ (by simp)).trans z23)) (row16 hZ).1 (row16 hZ).2) ?_
  rintro sw w24 ⟨hsw, hS24⟩
  have z24 : (T23.up (.mx 3 6) (ShT sw hsw Z)) (.mx 3 5) = ShT sz hsz1 Z := (Ths.up_ne _ _ (by simp)).trans z23
  obtain ⟨p1, p2, _⟩ := sh_get hS24 z24
  have hZl : 0 < Z.length := by rw [hZ.1]; omega
  refine Wu_set (f := slV) (x := ⟨none, 0, 0⟩) (i := 0) p1 (by rw [p2]; exact hZl) tBB sS sS rfl rfl fun w25 hO25 hm25 => ?_
  have hS25 := sh_out (q := .mx 3 7) (by simp) hS24 z24 hg0 hZ0 hO25 hm25
  rw [← nilM_one hZl] at hS25
  generalize hsz1.set 0 ⟨none, 0, 0⟩ = hsz2 at hS25
  obtain ⟨T25, hT25e⟩ : ∃ T25, T25 = ((T23.up (.mx 3 6) (ShT sw hsw Z)).up (.mx 3 5) (ShT sz hsz2 (nilM [true] Z))).up (.mx 3 7) (Rdo f8v g0 r0) := ⟨_, rfl⟩
  rw [← hT25e] at hS25
  have w25w : T25 (.mx 3 6) = ShT sw hsw Z := by rw [hT25e, Ths.up_ne _ _ (by simp), Ths.up_ne _ _ (by simp), Ths.up_same]
  refine sh_nil (i := 0) hS25 w25w hZl fun w26 hS26 => ?_
  rw [← nilM_one hZl] at hS26
  generalize hsw.set 0 ⟨none, 0, 0⟩ = hsw2 at hS26
  obtain ⟨T26, hT26e⟩ : ∃ T26, T26 = T25.up (.mx 3 6) (ShT sw hsw2 (nilM [true] Z)) := ⟨_, rfl⟩
  rw [← hT26e] at hS26
  have n26 : ∀ q, q ≠ .mx 3 5 → q ≠ .mx 3 6 → q ≠ .mx 3 7 → T26 q = T21 q := fun q a1 a2 a3 => by rw [hT26e, Ths.up_ne _ _ a2, hT25e, Ths.up_ne _ _ a3, Ths.up_ne _ _ a1, Ths.up_ne _ _ a2]; exact n23 q a1
  have z26 : T26 (.mx 3 5) = ShT sz hsz2 (nilM [true] Z) := by rw [hT26e, Ths.up_ne _ _ (by simp), hT25e, Ths.up_ne _ _ (by simp), Ths.up_same]
  have w26w : T26 (.mx 3 6) = ShT sw hsw2 (nilM [true] Z) := by rw [hT26e, Ths.up_same]
  have g26 : T26 (.mx 3 7) = Rdo f8v g0 r0 := by rw [hT26e, Ths.up_ne _ _ (by simp), hT25e, Ths.up_same]
  have hC26 : Cod T26 j a f k m b Q es1 cl1 := hC21.next (fun i => n26 _ (by simp) (by simp) (by simp))
  refine Cl_mono (recon_one hS26 hC26 z26 (by simp) (ag_gv j 5) hZ hn1 hn2 (by omega)) ?_
  rintro _ w27 ⟨rfl, T27, hsz3, D1, es2, cl2, hS27, hD1, z27, hC27, hcl2, n27⟩
  refine Cd_f ?_
  have w27w : T27 (.mx 3 6) = ShT sw hsw2 (nilM [true] Z) := (n27 _ (ag_gv j 6) (by simp)).trans w26w
  refine Cl_mono (recon_one hS27 hC27 w27w (by simp) (ag_gv j 6) hZ hn1 hn2 (by omega)) ?_
  rintro _ w28 ⟨rfl, T28, hsw3, D2, es3, cl3, hS28, hD2, w28w, hC28, hcl3, n28⟩
  refine Cd_f ?_
  rw [hD1] at hD2
  cases hD2
  have z28 := (n28 _ (ag_gv j 5) (by simp)).trans z27
  have hYn := nilM_rows (B := [true]) hZ
  refine like hS28 z28 w28w (by rw [giveM_len, nilM_len, hZ.1]; omega) (giveM_rows (N := 1048576) (fun x hx => ?_) (by omega) (fun row => Nat.le_trans (sumRow_le n row _) (by omega)) _ _ (fun x hx => by have := hYn x hx; omega)) fun w29 hS29 => ?_
  · unfold usedM at hx
    obtain ⟨i, hi, rfl⟩ := List.mem_map.1 hx
    rcases hq : (nilM [true] Z)[i]? with _ | r
    · rw [List.getD_eq_getElem?_getD, hq]; simp
    · rw [getD_get hq]
      have := hYn r (List.mem_of_getElem? hq)
      omega
  unfold q17again.j6
  refine Cd_f ?_
  have f28 : T28 (.mx 3 1) = ShT sf hsf M2 := (n28 _ (ag_gv j 1) (by simp)).trans ((n27 _ (ag_gv j 1) (by simp)).trans ((n26 _ (by simp) (by simp) (by simp)).trans f21))
  have g28 : T28 (.mx 3 7) = Rdo f8v g0 r0 := (n28 _ (ag_gv j 7) (by simp)).trans ((n27 _ (ag_gv j 7) (by simp)).trans g26)
  have hMf := sh_matR hS29 f28
  obtain ⟨h1, hh1⟩ := atx (l := hsf) (i := 0) (by rw [hMf.len]; exact hM2l)
  refine rd_hdr (i := 0) hMf.hdr hh1 ?_
  refine Cl_gv (d := .one (.at .bool)) (x := true) (by have := equal_gv (hS29.rds g28) (hMf.row 0 h1 r0 hh1 hr0) (by omega); rw [decide_eq_true rfl] at this; exact this) fun w30 hx30 => ?_
  subst hRR
  refine ⟨true, rfl, rfl, T28, es3, cl3, hS29.exx hx30, hC28, by omega, fun q h1 h2 h3 => ?_⟩
  have nq : ∀ i, q ≠ .mx 3 i := fun i e => h1 ⟨i, e⟩
  rw [n28 q h2 (nq 6), n27 q h2 (nq 5), n26 q (nq 5) (nq 6) (nq 7), n21 q h2 (nq 5), n20 q (nq 5), n17 q (fun i _ => nq i) h3]
  exact fr4 q h1
end Go.Proofs.YtbiilejgfihohaaGreat
namespace Go.Proofs.YtbiilejgfihohaaGreat
open Go Go.Cu Go.RowKit
theorem tII : Tryz.prog.underlying 53 = some (.slice 25) := by kernel_rfl
theorem sII : sizeIs Tryz.prog 25 1 = true := by kernel_rfl
theorem oII : isOne Tryz.prog 25 = true := by kernel_rfl
theorem enc_take {n k m : Nat} {Q M : Mtx} (hQ : Shp Q m k) (hM : Shp M (k + m) n) : (encM 0 n n k Q M).take k = M.take k := by
  have h1 := shp_enc (fr := 0) (Nat.zero_le _) (Nat.le_refl n) hQ hM
  refine ext_rows (shp_takeM h1) (shp_takeM hM) fun r hr c hc => ?_
  rw [ent_take hr, ent_take hr, ent_enc (Nat.zero_le _) (Nat.le_refl _) hQ hM (by omega), if_pos hr]
theorem sh_empty {W0 w : World} {T : Ths} {k : Ky} {s : Sl} {hs : List Sl} {M : Mtx} {i : Nat} {K : World → Prop} (hS : Sep W0 w T) (hk : T k = ShT s hs M) (hi : i < M.length) (hK : ∀ h w', Sep W0 w' (T.up k (ShT s (hs.set i h) (M.set i []))) → K w') :
    Wr Tryz.prog (Instr.buildSlice 24 0 #[]) (.one (.at .sl)) (fun (x30 : Sl) w31 =>
    Pu Tryz.prog (Instr.indexAt 30 (.slice s.base s.len s.cap) (.int .i64 (i : Int))) (.one (.at .addr)) (fun (x79 : Addr) w80 =>
    Wu Tryz.prog (Instr.storeAt 24 (.pointer (some x79)) (.slice x30.base x30.len x30.cap)) K w80) w31) w := by
  refine Wr_lit (f := f8v) (e := 5) (base := w.heap.size) [] (by kernel_rfl) (Nat.le_refl _) (by simp) fun s13 w13 ho13 hx13 _ => ?_
  obtain ⟨q1, q2, _⟩ := sh_get hS hk
  refine Wu_set (f := slV) (x := s13) (i := i) (q1.ex hx13) (by rw [q2]; exact hi) tBB sS sS rfl rfl fun w15 hO15 hm15 => ?_
  exact hK _ w15 (sh_new hS hk hx13 ho13 (by rw [q2]; exact hi) hO15 hm15)
theorem step_nil {B : List Bool} {M : Mtx} {i : Nat} (hi : i < M.length) (hb : B.getD i false = true) : ((nilM B M).take i ++ M.drop i).set i [] = (nilM B M).take (i + 1) ++ M.drop (i + 1) := by
  have := nilM_at (B := B) hi
  rw [if_pos hb] at this
  exact stepG (nilM_len _ _) this
theorem keep_nil {B : List Bool} {M : Mtx} {i : Nat} (hi : i < M.length) (hb : B.getD i false = false) : (nilM B M).take i ++ M.drop i = (nilM B M).take (i + 1) ++ M.drop (i + 1) := by
  have := nilM_at (B := B) hi
  rw [if_neg (by rw [hb]; simp), List.getD_eq_getElem?_getD, List.getElem?_eq_getElem hi] at this
  exact stepG_keep (nilM_len _ _) this (by rw [List.getElem?_eq_getElem hi]; rfl)
theorem step_want {k : Nat} {B : List Bool} {M : Mtx} {i : Nat} (hi : i < M.length) (hb : B.getD i false = true) (hk : k ≤ i) : ((wantM k B M).take i ++ M.drop i).set i [] = (wantM k B M).take (i + 1) ++ M.drop (i + 1) := by
  have := wantM_at (k := k) (B := B) hi
  rw [if_pos (by rw [hb, decide_eq_true hk]; rfl)] at this
  exact stepG (wantM_len _ _ _) this
theorem keep_want {k : Nat} {B : List Bool} {M : Mtx} {i : Nat} (hi : i < M.length) (hb : B.getD i false = false ∨ i < k) : (wantM k B M).take i ++ M.drop i = (wantM k B M).take (i + 1) ++ M.drop (i + 1) := by
  have := wantM_at (k := k) (B := B) hi
  rw [if_neg (by
    rcases hb with h | h
    · rw [h]; simp
    · rw [decide_eq_false (show ¬ k ≤ i by omega)]; simp), List.getD_eq_getElem?_getD, List.getElem?_eq_getElem hi] at this
  exact stepG_keep (wantM_len _ _ _) this (by rw [List.getElem?_eq_getElem hi]; rfl)
theorem full_take {A M : Mtx} {n : Nat} (h1 : A.length = n) (h2 : M.length = n) : A.take n ++ M.drop n = A := by
  rw [List.take_of_length_le (by omega), List.drop_of_length_le (by omega), List.append_nil]
theorem count_succ {B : List Bool} {j : Nat} : ((List.range (j + 1)).filter (fun r => B.getD r false)).length = ((List.range j).filter (fun r => B.getD r false)).length + (if B.getD j false = true then 1 else 0) := by
  rw [List.range_succ, List.filter_append, List.length_append]
  cases h : B.getD j false with
  | true => rw [if_pos rfl, List.filter_cons, if_pos h]; rfl
  | false => rw [if_neg (by simp), List.filter_cons, if_neg (by rw [h]; simp)]; rfl
theorem back_law (n : CodeI) (hn : Code64 n) (W : World) (sd sr : Sl) (data : List F8) (hr : List Sl) (hd : Rds f8v W sd data) (hrr : Rds slV W sr hr) (hP : ∀ (i : Nat) (h : Sl), hr[i]? = some h → ∃ P : List Int, Rds i64v W h P ∧ P.length ≤ 140737488355328 ∧ ∀ x ∈ P, I64 x) (hdl : data.length ≤ 140737488355328) (hrl : hr.length ≤ 140737488355328) :
    Gv Tryz.prog 7 #[.agg #[.int .i64 n.1, .int .i64 n.2.1, .int .i64 n.2.2.1, .int .i64 n.2.2.2.1], .slice sd.base sd.len sd.cap, .slice sr.base sr.len sr.cap] (.bool true) W := by
  refine q17McodeBack.run _ n sd sr W ?_
  generalize hRR : (fun (e : Ending) (w' : World) => e = .returned (.bool true) ∧ Ex W w') = R
  unfold q17McodeBack.M
  refine Wr_box fun w1 hB hx1 => ?_
  refine Rd_hasN (x := n) hB (by kernel_rfl) rfl ?_
  have hS1 := (Sep.init W).exx hx1
  refine open_ok 0 (by omega) hS1 hn fun a T2 Q w2 hS2 hC2 hT2 => ?_
  refine Cd_f (Pu_codnil ?_)
  unfold q17McodeBack.j1
  refine Cd_f ?_
  obtain ⟨k1, k2, _⟩ := cK_ok n
  obtain ⟨m1, m2, _⟩ := cM_ok n
  generalize hk : cK n = k at *
  generalize hm : cM n = m at *
  generalize hf : cF n = f at *
  generalize hb : cB n = b at *
  dsimp only
  obtain ⟨hN1, hN2⟩ := cutN_ok (len := data.length) (k := k) (most := 60) (by omega)
  refine Cl_mono (cut_ok (.mx 2 0) (m := m) (most := 60) hS2 (fun w' T' h' _ => h'.old hd) k1 (by omega) (by omega) (by omega) hdl) ?_
  rintro s w3 ⟨hs, hS3⟩
  have hM0 : Shp (cutM' data k m 60) (k + m) (cutN data.length k 60) := shp_gen _ _ _
  generalize cutM' data k m 60 = M0 at hS3 hM0
  generalize cutN data.length k 60 = len at hN1 hN2 hM0
  obtain ⟨hQ, hMds⟩ := hC2.shp
  have row16 : ∀ {M : Mtx}, Shp M (k + m) len → M.length ≤ 65536 ∧ ∀ r ∈ M, r.length ≤ 1048576 := fun h => ⟨by rw [h.1]; omega, fun r hr => by rw [h.2 r hr]; omega⟩
  refine Cl_mono (copied_ok (.mx 2 1) hS3 (fun w' T' h' hT' => sh_matR h' ((hT' _ (by simp)).trans (Ths.up_same _ _ _))) (row16 hM0).1 (row16 hM0).2) ?_
  rintro s1 w4 ⟨hs1, hS4⟩
  obtain ⟨T4, hT4e⟩ : ∃ T4, T4 = (T2.up (.mx 2 0) (ShT s hs M0)).up (.mx 2 1) (ShT s1 hs1 M0) := ⟨_, rfl⟩
  rw [← hT4e] at hS4
  have s4 : T4 (.mx 2 0) = ShT s hs M0 := by rw [hT4e, Ths.up_ne _ _ (by simp), Ths.up_same]
  have d4 : T4 (.mx 2 1) = ShT s1 hs1 M0 := by rw [hT4e, Ths.up_same]
  have hC4 : Cod T4 0 a f k m b Q [] 0 := hC2.next (fun i => by rw [hT4e, Ths.up_ne _ _ (by simp), Ths.up_ne _ _ (by simp)])
  refine Held_of (fun _ => True) trivial ?_
  refine Cl_mono (encode_ok (hS4.exx (Ex.drew w4)) hC4 s4 (by simp) hM0 hN1 (by omega)) ?_
  rintro _ w5 ⟨rfl, hS5⟩
  refine ⟨trivial, Cd_f ?_⟩
  have hM1 := shp_enc (fr := 0) (Nat.zero_le _) (Nat.le_refl len) hQ hM0
  have hcol : ∀ t, t < len → Col k m Q (encM 0 len len k Q M0) t := fun t ht => col_enc (Nat.zero_le _) (Nat.le_refl _) hQ hM0 (Nat.zero_le _) ht
  have htk := enc_take hQ hM0
  generalize encM 0 len len k Q M0 = M1 at hS5 hM1 hcol htk
  obtain ⟨T5, hT5e⟩ : ∃ T5, T5 = T4.up (.mx 2 0) (ShT s hs M1) := ⟨_, rfl⟩
  rw [← hT5e] at hS5
  have s5 : T5 (.mx 2 0) = ShT s hs M1 := by rw [hT5e, Ths.up_same]
  have d5 : T5 (.mx 2 1) = ShT s1 hs1 M0 := by rw [hT5e, Ths.up_ne _ _ (by simp)]; exact d4
  have hC5 : Cod T5 0 a f k m b Q [] 0 := hC4.next (fun i => by rw [hT5e, Ths.up_ne _ _ (by simp)])
  have mA := sh_matR hS5 s5
  have mB := sh_matR hS5 d5
  have hA1 : (M0.take k).length = k := by rw [List.length_take, hM0.1]; omega
  have mA' : MatR w5 s hs (M0.take k ++ M1.drop k) := by rw [← htk, List.take_append_drop]; exact mA
  have mB' : MatR w5 s1 hs1 (M0.take k ++ M0.drop k) := by rw [List.take_append_drop]; exact mB
  have l1 := mA.hdr.1
  have l2 := mA.len
  have l3 := mB.hdr.1
  have l4 := mB.len
  have l5 := hM1.1
  have l6 := hM0.1
  have l7 := mA.hdr.2.1
  have l8 := mB.hdr.2.1
  refine Pu_cut 0 k tBB sS (.inl ⟨rfl, rfl⟩) (.inr ⟨_, rfl⟩) (Nat.zero_le _) (by omega) ?_
  refine Pu_cut 0 k tBB sS (.inl ⟨rfl, rfl⟩) (.inr ⟨_, rfl⟩) (Nat.zero_le _) (by omega) ?_
  refine Cl_gv (d := .one (.at .bool)) (x := true) (by have := alike_gv (matR_take mA' hA1) (matR_take mB' hA1) (by rw [hA1]; omega) (fun r hr => by rw [hM0.2 r (List.mem_of_mem_take hr)]; omega); rw [decide_eq_true rfl] at this; exact this) fun w6 hx6 => ⟨trivial, Cd_f ?_⟩
  refine Cl_mono (again_ok (hS5.exx hx6) hC5 s5 (by simp) hM1 hN1 (by omega) (by omega)) ?_
  rintro _ w7 ⟨rfl, T7, es7, cl7, hS7, hC7, hcl7, n7⟩
  refine ⟨trivial, ?_⟩
  unfold q17McodeBack.j2
  refine Cd_f ?_
  have nag : ∀ i, ¬ AgK (.mx 2 i) := fun i ⟨_, e⟩ => by simp at e
  have ngv : ∀ i, ¬ GvK 0 (.mx 2 i) := fun i => by unfold GvK PlK GnK; simp
  have nup : ∀ i, ¬ UpK (.mx 2 i) := fun i => by unfold UpK; simp
  have s7 : T7 (.mx 2 0) = ShT s hs M1 := (n7 _ (nag 0) (ngv 0) (nup 0)).trans s5
  refine Cl_mono (copied_ok (.mx 2 2) hS7 (fun w' T' h' hT' => sh_matR h' ((hT' _ (by simp)).trans s7)) (row16 hM1).1 (row16 hM1).2) ?_
  rintro sw w8 ⟨hsw, hS8⟩
  have hrr' := hrr.1
  unfold q17McodeBack.l1
  refine loopW_of (fun st w' => ∃ (c : Nat) (T' : Ths) (es : List Tr.Ent) (cl : Int), st = (sr, at0 a.cp, (k : Int), (m : Int), sw, (c : Int) - 1, ()) ∧ c ≤ hr.length + 1 ∧ Sep W w' T' ∧ T' (.mx 2 2) = ShT sw hsw M1 ∧ Cod T' 0 a f k m b Q es cl ∧ cl ≤ 3 + 2 * (c : Int)) (fun st _ => ((hr.length : Int) - st.2.2.2.2.2.1).toNat) ?_
    ⟨0, _, es7, cl7, rfl, by omega, hS8, Ths.up_same _ _ _, hC7.next (fun i => Ths.up_ne _ _ (by simp)), by omega⟩
  rintro q1 _ w9 ⟨c, T9, es, cl, rfl, hc, hS9, w9w, hC9, hcl⟩ hq1
  unfold q17McodeBack.b1
  dsimp only at hq1 ⊢
  refine Cd_dec (fun hlt => ?_) (fun hge => ?_)
  rotate_left
  · subst hRR
    exact ⟨rfl, hS9.mo.new (fun i hi => hi)⟩
  have round : ∀ (sp : Sl) (P : List Int), Rds i64v W sp P → P.length ≤ 140737488355328 → (∀ x ∈ P, I64 x) → q17McodeBack.j3 R q1 sr (at0 a.cp) (k : Int) (m : Int) sw ((c : Int) - 1) sp w9 := by
    intro sp P hp hpl hPi
    unfold q17McodeBack.j3
    have hpl' := hp.1
    refine Cl_gv (d := .one (.at (.int .i64))) (x := intoI ((sp.len : Nat) : Int) 1 (m : Int)) (into_gv (by omega) (by omega) (by omega) (by omega) (by omega)) fun w10 hx10 => ?_
    have hcr := into_range (n := ((sp.len : Nat) : Int)) (show (1 : Int) ≤ (m : Int) by omega)
    obtain ⟨cc, hcc⟩ : ∃ c : Nat, intoI ((sp.len : Nat) : Int) 1 (m : Int) = (c : Int) := ⟨(intoI ((sp.len : Nat) : Int) 1 (m : Int)).toNat, by omega⟩
    rw [hcc] at hcr ⊢
    rw [wrap64 (x := (k : Int) + (m : Int)) (by omega) (by omega), show (k : Int) + (m : Int) = ((k + m : Nat) : Int) by omega]
    refine Cl_mono (pick_sep_ok (.mx 2 3) (hS9.exx hx10) (fun w' T' h' _ => h'.old hp) hPi (by omega) (by omega) (by omega)) ?_
    rintro so w11 hS11
    obtain ⟨hBl, hBt⟩ := pickB_ok P (n := k + m) (by omega) cc (by omega)
    generalize pickB (k + m) P cc = B at hS11 hBl hBt
    obtain ⟨T11, hT11e⟩ : ∃ T11, T11 = T9.up (.mx 2 3) (Owt bV 4 so B) := ⟨_, rfl⟩
    rw [← hT11e] at hS11
    have w11w : T11 (.mx 2 2) = ShT sw hsw M1 := by rw [hT11e, Ths.up_ne _ _ (by simp)]; exact w9w
    refine Cl_mono (copied_ok (.mx 2 4) hS11 (fun w' T' h' hT' => sh_matR h' ((hT' _ (by simp)).trans w11w)) (row16 hM1).1 (row16 hM1).2) ?_
    rintro sa w12 ⟨hsa, hS12⟩
    refine Cl_mono (copied_ok (.mx 2 5) hS12 (fun w' T' h' hT' => sh_matR h' ((hT' _ (by simp)).trans ((Ths.up_ne _ _ (by simp)).trans w11w))) (row16 hM1).1 (row16 hM1).2) ?_
    rintro sb w13 ⟨hsb, hS13⟩
    refine Cl_mono (copied_ok (.mx 2 6) hS13 (fun w' T' h' hT' => sh_matR h' ((hT' _ (by simp)).trans ((Ths.up_ne _ _ (by simp)).trans ((Ths.up_ne _ _ (by simp)).trans w11w)))) (row16 hM1).1 (row16 hM1).2) ?_
    rintro sv w14 ⟨hsv, hS14⟩
    obtain ⟨T14, hT14e⟩ : ∃ T14, T14 = ((T11.up (.mx 2 4) (ShT sa hsa M1)).up (.mx 2 5) (ShT sb hsb M1)).up (.mx 2 6) (ShT sv hsv M1) := ⟨_, rfl⟩
    rw [← hT14e] at hS14
    have a14 : T14 (.mx 2 4) = ShT sa hsa M1 := by rw [hT14e, Ths.up_ne _ _ (by simp), Ths.up_ne _ _ (by simp), Ths.up_same]
    have b14 : T14 (.mx 2 5) = ShT sb hsb M1 := by rw [hT14e, Ths.up_ne _ _ (by simp), Ths.up_same]
    have v14 : T14 (.mx 2 6) = ShT sv hsv M1 := by rw [hT14e, Ths.up_same]
    have o14 : T14 (.mx 2 3) = Owt bV 4 so B := by rw [hT14e, Ths.up_ne _ _ (by simp), Ths.up_ne _ _ (by simp), Ths.up_ne _ _ (by simp), hT11e, Ths.up_same]
    have w14w : T14 (.mx 2 2) = ShT sw hsw M1 := by rw [hT14e, Ths.up_ne _ _ (by simp), Ths.up_ne _ _ (by simp), Ths.up_ne _ _ (by simp)]; exact w11w
    have hC14 : Cod T14 0 a f k m b Q es cl := hC9.next (fun i => by rw [hT14e, Ths.up_ne _ _ (by simp), Ths.up_ne _ _ (by simp), Ths.up_ne _ _ (by simp), hT11e, Ths.up_ne _ _ (by simp)])
    unfold q17McodeBack.l2
    refine loopW_of (fun st w' => ∃ (i : Nat) (ha hb hv : List Sl) (T' : Ths), st = (sr, at0 a.cp, (k : Int), (m : Int), sw, (c : Int) - 1, sp, so, sa, sb, sv, (i : Int), ()) ∧ i ≤ k + m ∧ Sep W w' T' ∧ T' (.mx 2 4) = ShT sa ha ((nilM B M1).take i ++ M1.drop i) ∧ T' (.mx 2 5) = ShT sb hb ((nilM B M1).take i ++ M1.drop i) ∧
        T' (.mx 2 6) = ShT sv hv ((wantM k B M1).take i ++ M1.drop i) ∧ ∀ q, q ≠ .mx 2 4 → q ≠ .mx 2 5 → q ≠ .mx 2 6 → T' q = T14 q) (fun st _ => (((k + m : Nat) : Int) - st.2.2.2.2.2.2.2.2.2.2.2.1).toNat) ?_
      ⟨0, hsa, hsb, hsv, T14, rfl, Nat.zero_le _, hS14, by simpa using a14, by simpa using b14, by simpa using v14, fun _ _ _ _ => rfl⟩
    rintro q2 _ w15 ⟨i, ha, hb', hv, T15, rfl, hi, hS15, a15, b15, v15, n15⟩ hq2
    unfold q17McodeBack.b2
    dsimp only at hq2 ⊢
    rw [wrap64 (x := (k : Int) + (m : Int)) (by omega) (by omega)]
    have hwl := wantM_len k B M1
    have hnl := nilM_len B M1
    refine Cd_dec (fun hlt2 => ?_) (fun hge2 => ?_)
    · have hik : i < k + m := by omega
      have hiM : i < M1.length := by omega
      have hcl1 : i < ((nilM B M1).take i ++ M1.drop i).length := by rw [List.length_append, List.length_take, List.length_drop]; omega
      have hcl2 : i < ((wantM k B M1).take i ++ M1.drop i).length := by rw [List.length_append, List.length_take, List.length_drop]; omega
      obtain ⟨bb, hbb⟩ := atx (l := B) (i := i) (by omega)
      have hbD : B.getD i false = bb := getD_get hbb
      have hO15 := hS15.owt ((n15 (.mx 2 3) (by simp) (by simp) (by simp)).trans o14)
      refine rd_bool hO15.rds hbb ?_
      have next : ∀ {w' : World} {ha hb hv : List Sl} {T' : Ths}, Sep W w' T' → T' (.mx 2 4) = ShT sa ha ((nilM B M1).take (i + 1) ++ M1.drop (i + 1)) → T' (.mx 2 5) = ShT sb hb ((nilM B M1).take (i + 1) ++ M1.drop (i + 1)) →
          T' (.mx 2 6) = ShT sv hv ((wantM k B M1).take (i + 1) ++ M1.drop (i + 1)) → (∀ q, q ≠ .mx 2 4 → q ≠ .mx 2 5 → q ≠ .mx 2 6 → T' q = T14 q) → q17McodeBack.j4 R q1 q2 sr (at0 a.cp) (k : Int) (m : Int) sw ((c : Int) - 1) sp so sa sb sv (i : Int) w' := by
        intro w' ha hb hv T' c1 c2 c3 c4 c5
        unfold q17McodeBack.j4
        rw [wrap64 (x := (i : Int) + 1) (by omega) (by omega), show (i : Int) + 1 = ((i + 1 : Nat) : Int) by omega]
        exact hq2 _ _ ⟨i + 1, ha, hb, hv, T', rfl, by omega, c1, c2, c3, c4, c5⟩ (by dsimp only; omega)
      refine Cd_of (fun hbt => ?_) (fun hbf => ?_)
      · have hbD' := hbD.trans hbt
        refine sh_nil hS15 a15 hcl1 fun w16 hS16 => ?_
        rw [step_nil hiM hbD'] at hS16
        refine sh_empty hS16 ((Ths.up_ne _ _ (by simp)).trans b15) hcl1 fun h17 w17 hS17 => ?_
        rw [step_nil hiM hbD'] at hS17
        have v17 : ((T15.up (.mx 2 4) (ShT sa (ha.set i ⟨none, 0, 0⟩) ((nilM B M1).take (i + 1) ++ M1.drop (i + 1)))).up (.mx 2 5) (ShT sb (hb'.set i h17) ((nilM B M1).take (i + 1) ++ M1.drop (i + 1)))) (.mx 2 6) = ShT sv hv ((wantM k B M1).take i ++ M1.drop i) := (Ths.up_ne _ _ (by simp)).trans ((Ths.up_ne _ _ (by simp)).trans v15)
        refine Cd_dec (fun hjk => ?_) (fun hjk => ?_)
        · refine sh_nil hS17 v17 hcl2 fun w18 hS18 => ?_
          rw [step_want hiM hbD' (by omega)] at hS18
          refine next (ha := ha.set i ⟨none, 0, 0⟩) (hb := hb'.set i h17) (hv := hv.set i ⟨none, 0, 0⟩) hS18 ?_ ?_ (Ths.up_same _ _ _) (fun q c1 c2 c3 => ?_)
          · rw [Ths.up_ne _ _ (by simp), Ths.up_ne _ _ (by simp), Ths.up_same]
          · rw [Ths.up_ne _ _ (by simp), Ths.up_same]
          · rw [Ths.up_ne _ _ c3, Ths.up_ne _ _ c2, Ths.up_ne _ _ c1]; exact n15 q c1 c2 c3
        · refine next (ha := ha.set i ⟨none, 0, 0⟩) (hb := hb'.set i h17) (hv := hv) hS17 ?_ (Ths.up_same _ _ _) ?_ (fun q c1 c2 c3 => ?_)
          · rw [Ths.up_ne _ _ (by simp), Ths.up_same]
          · rw [v17, keep_want hiM (.inr (by omega))]
          · rw [Ths.up_ne _ _ c2, Ths.up_ne _ _ c1]; exact n15 q c1 c2 c3
      · have hbD' := hbD.trans hbf
        refine next (ha := ha) (hb := hb') (hv := hv) hS15 ?_ ?_ ?_ n15
        · rw [a15, keep_nil hiM hbD']
        · rw [b15, keep_nil hiM hbD']
        · rw [v15, keep_want hiM (.inl hbD')]
    clear hq2
    have hie : i = k + m := by omega
    subst hie
    rw [full_take (by omega) (by omega)] at a15 b15 v15
    have hC15 : Cod T15 0 a f k m b Q es cl := hC14.next (fun i => n15 _ (by simp) (by simp) (by simp))
    have w15w : T15 (.mx 2 2) = ShT sw hsw M1 := (n15 _ (by simp) (by simp) (by simp)).trans w14w
    have hYm : (missL (nilM B M1)).length = cc := (missL_nil hM1 hN1 hBl).trans hBt
    have like : ∀ {w : World} {T' : Ths} {k1 k2 : Ky} {s1 s2 : Sl} {h1 h2 : List Sl} {M : Mtx} {K : Bool → World → Prop}, Sep W w T' → T' k1 = ShT s1 h1 M → T' k2 = ShT s2 h2 M → M.length ≤ 65536 → (∀ r ∈ M, r.length ≤ 1048576) → (∀ w', Sep W w' T' → K true w') →
        Cl Tryz.prog 20 #[.slice s1.base s1.len s1.cap, .slice s2.base s2.len s2.cap] (.one (.at .bool)) K w := by
      intro w T' k1 k2 s1 s2 h1 h2 M K c1 c2 c3 c4 c5 c6
      refine Cl_gv (d := .one (.at .bool)) (x := true) (by have := alike_gv (sh_matR c1 c2) (sh_matR c1 c3) c4 c5; rw [decide_eq_true rfl] at this; exact this) fun w' hx' => c6 w' (c1.exx hx')
    refine Cl_mono (recon_ok hS15 hC15 a15 (by simp) (ngv 4) (hnl.trans hM1.1) (nilM_rows hM1) (by omega) hN1 (by omega) (by omega)) ?_
    rintro x16 w16 (⟨h1, _⟩ | ⟨h1, _⟩ | ⟨_, rfl, T16, ha16, D, es16, cl16, hS16, hD, a16, hC16, hcl16, _, n16⟩)
    · rw [h1] at hYm; simp at hYm; omega
    · omega
    refine Cd_f ?_
    rw [give_back false hQ hMds hM1 hN1 hcol (by omega) hD, if_neg (by simp)] at a16
    have w16w : T16 (.mx 2 2) = ShT sw hsw M1 := (n16 _ (ngv 2) (by simp)).trans w15w
    have b16 := (n16 _ (ngv 5) (by simp)).trans b15
    have v16 := (n16 _ (ngv 6) (by simp)).trans v15
    refine like hS16 a16 w16w (row16 hM1).1 (row16 hM1).2 fun w17 hS17 => ?_
    refine Cd_f ?_
    refine Cl_mono (reconD_ok hS17 hC16 b16 (by simp) (ngv 5) (hnl.trans hM1.1) (nilM_rows hM1) (by omega) hN1 (by omega) (by omega)) ?_
    rintro x18 w18 (⟨h1, _⟩ | ⟨h1, _⟩ | ⟨_, rfl, T18, hb18, D', es18, cl18, hS18, hD', b18, hC18, hcl18, _, n18⟩)
    · rw [h1] at hYm; simp at hYm; omega
    · omega
    refine Cd_f ?_
    rw [give_back true hQ hMds hM1 hN1 hcol (by omega) hD', if_pos rfl] at b18
    have v18 := (n18 _ (ngv 6) (by simp)).trans v16
    have a18 := (n18 _ (ngv 4) (by simp)).trans a16
    have w18w : T18 (.mx 2 2) = ShT sw hsw M1 := (n18 _ (ngv 2) (by simp)).trans w16w
    refine like hS18 b18 v18 (by omega) (fun r hr => by have := wantM_rows (k := k) (B := B) hM1 r hr; omega) fun w19 hS19 => ?_
    unfold q17McodeBack.j5
    refine Cd_f ?_
    refine Cl_mono (verify_ok hS19 hC18 a18 (by simp) hM1 hN1 (by omega)) ?_
    rintro _ w20 ⟨rfl, hx20⟩
    rw [(agree_iff (Nat.zero_le _) (Nat.le_refl _) hQ hM1).2 (fun t _ ht => hcol t ht)]
    refine Cd_f ?_
    unfold q17McodeBack.j6
    refine Cd_f ?_
    have hS20 := hS19.exx hx20
    have hmin : minI (IntKind.wrap .i64 ((m : Int) + 1)) (IntKind.wrap .i64 (IntKind.wrap .i64 ((k : Int) + (m : Int)) - 1)) = ((min (m + 1) (k + m - 1) : Nat) : Int) := by
      rw [wrap64 (x := (m : Int) + 1) (by omega) (by omega), wrap64 (x := (k : Int) + (m : Int)) (by omega) (by omega), wrap64 (x := (k : Int) + (m : Int) - 1) (by omega) (by omega)]
      unfold minI
      split <;> omega
    rw [hmin, wrap64 (x := (k : Int) + (m : Int)) (by omega) (by omega), show (k : Int) + (m : Int) = ((k + m : Nat) : Int) by omega]
    obtain ⟨c2, hc2⟩ : ∃ c2, c2 = min (m + 1) (k + m - 1) := ⟨_, rfl⟩
    rw [← hc2]
    refine Cl_mono (pick_sep_ok (.mx 2 7) hS20 (fun w' T' h' _ => h'.old hp) hPi (by omega) (by omega) (by omega)) ?_
    rintro smo w21 hS21
    obtain ⟨hEl, hEt⟩ := pickB_ok P (n := k + m) (by omega) c2 (by omega)
    generalize pickB (k + m) P c2 = E at hS21 hEl hEt
    obtain ⟨T21, hT21e⟩ : ∃ T21, T21 = T18.up (.mx 2 7) (Owt bV 4 smo E) := ⟨_, rfl⟩
    rw [← hT21e] at hS21
    have w21w : T21 (.mx 2 2) = ShT sw hsw M1 := by rw [hT21e, Ths.up_ne _ _ (by simp)]; exact w18w
    refine Cl_mono (copied_ok (.mx 2 8) hS21 (fun w' T' h' hT' => sh_matR h' ((hT' _ (by simp)).trans w21w)) (row16 hM1).1 (row16 hM1).2) ?_
    rintro sx w22 ⟨hsx, hS22⟩
    refine Cl_mono (copied_ok (.mx 2 9) hS22 (fun w' T' h' hT' => sh_matR h' ((hT' _ (by simp)).trans ((Ths.up_ne _ _ (by simp)).trans w21w))) (row16 hM1).1 (row16 hM1).2) ?_
    rintro sl w23 ⟨hsl, hS23⟩
    obtain ⟨T23, hT23e⟩ : ∃ T23, T23 = (T21.up (.mx 2 8) (ShT sx hsx M1)).up (.mx 2 9) (ShT sl hsl M1) := ⟨_, rfl⟩
    rw [← hT23e] at hS23
    have x23 : T23 (.mx 2 8) = ShT sx hsx M1 := by rw [hT23e, Ths.up_ne _ _ (by simp), Ths.up_same]
    have l23 : T23 (.mx 2 9) = ShT sl hsl M1 := by rw [hT23e, Ths.up_same]
    have o23 : T23 (.mx 2 7) = Owt bV 4 smo E := by rw [hT23e, Ths.up_ne _ _ (by simp), Ths.up_ne _ _ (by simp), hT21e, Ths.up_same]
    have w23w : T23 (.mx 2 2) = ShT sw hsw M1 := by rw [hT23e, Ths.up_ne _ _ (by simp), Ths.up_ne _ _ (by simp)]; exact w21w
    have hC23 : Cod T23 0 a f k m b Q es18 cl18 := hC18.next (fun i => by rw [hT23e, Ths.up_ne _ _ (by simp), Ths.up_ne _ _ (by simp), hT21e, Ths.up_ne _ _ (by simp)])
    have hnE := nilM_len E M1
    have fin : ∀ {w' : World} {T' : Ths}, Sep W w' T' → T' (.mx 2 2) = ShT sw hsw M1 → Cod T' 0 a f k m b Q es18 cl18 → q17McodeBack.j8 R q1 sr (at0 a.cp) (k : Int) (m : Int) sw ((c : Int) - 1) false w' := by
      intro w' T' c1 c2 c3
      unfold q17McodeBack.j8
      refine Cd_f ?_
      rw [wrap64 (x := (c : Int) - 1 + 1) (by omega) (by omega), show (c : Int) - 1 + 1 = ((c + 1 : Nat) : Int) - 1 by omega]
      exact hq1 _ _ ⟨c + 1, T', es18, cl18, rfl, by omega, c1, c2, c3, by omega⟩ (by dsimp only; omega)
    unfold q17McodeBack.l3
    refine loopW_of (fun st w' => ∃ (i : Nat) (hx hl : List Sl) (T' : Ths), st = (sr, at0 a.cp, (k : Int), (m : Int), sw, (c : Int) - 1, smo, sx, sl, ((((List.range i).filter (fun r => E.getD r false)).length : Nat) : Int), (i : Int), ()) ∧ i ≤ k + m ∧ Sep W w' T' ∧ T' (.mx 2 8) = ShT sx hx ((nilM E M1).take i ++ M1.drop i) ∧ T' (.mx 2 9) = ShT sl hl ((nilM E M1).take i ++ M1.drop i) ∧
        ∀ q, q ≠ .mx 2 8 → q ≠ .mx 2 9 → T' q = T23 q) (fun st _ => (((k + m : Nat) : Int) - st.2.2.2.2.2.2.2.2.2.2.1).toNat) ?_
      ⟨0, hsx, hsl, T23, rfl, Nat.zero_le _, hS23, by simpa using x23, by simpa using l23, fun _ _ _ => rfl⟩
    rintro q3 _ w24 ⟨i, hx, hl, T24, rfl, hi, hS24, x24, l24, n24⟩ hq3
    unfold q17McodeBack.b3
    dsimp only at hq3 ⊢
    rw [wrap64 (x := (k : Int) + (m : Int)) (by omega) (by omega)]
    have hcnt : ((List.range i).filter (fun r => E.getD r false)).length ≤ i := by
      have := List.length_filter_le (fun r => E.getD r false) (List.range i)
      rwa [List.length_range] at this
    refine Cd_dec (fun hlt2 => ?_) (fun hge2 => ?_)
    · have hik : i < k + m := by omega
      have hiM : i < M1.length := by omega
      have hcl1 : i < ((nilM E M1).take i ++ M1.drop i).length := by rw [List.length_append, List.length_take, List.length_drop]; omega
      obtain ⟨bb, hbb⟩ := atx (l := E) (i := i) (by omega)
      have hbD : E.getD i false = bb := getD_get hbb
      have hO24 := hS24.owt ((n24 (.mx 2 7) (by simp) (by simp)).trans o23)
      refine rd_bool hO24.rds hbb ?_
      have next : ∀ {w' : World} {hx hl : List Sl} {T' : Ths} {lost : Int}, lost = ((((List.range (i + 1)).filter (fun r => E.getD r false)).length : Nat) : Int) → Sep W w' T' → T' (.mx 2 8) = ShT sx hx ((nilM E M1).take (i + 1) ++ M1.drop (i + 1)) → T' (.mx 2 9) = ShT sl hl ((nilM E M1).take (i + 1) ++ M1.drop (i + 1)) →
          (∀ q, q ≠ .mx 2 8 → q ≠ .mx 2 9 → T' q = T23 q) → q17McodeBack.j7 R q1 q3 sr (at0 a.cp) (k : Int) (m : Int) sw ((c : Int) - 1) smo sx sl lost (i : Int) w' := by
        intro w' hx hl T' lost c0 c1 c2 c3 c4
        subst c0
        unfold q17McodeBack.j7
        rw [wrap64 (x := (i : Int) + 1) (by omega) (by omega), show (i : Int) + 1 = ((i + 1 : Nat) : Int) by omega]
        exact hq3 _ _ ⟨i + 1, hx, hl, T', rfl, by omega, c1, c2, c3, c4⟩ (by dsimp only; omega)
      refine Cd_of (fun hbt => ?_) (fun hbf => ?_)
      · have hbD' := hbD.trans hbt
        refine sh_nil hS24 x24 hcl1 fun w25 hS25 => ?_
        rw [step_nil hiM hbD'] at hS25
        refine sh_nil hS25 ((Ths.up_ne _ _ (by simp)).trans l24) hcl1 fun w26 hS26 => ?_
        rw [step_nil hiM hbD'] at hS26
        refine next (hx := hx.set i ⟨none, 0, 0⟩) (hl := hl.set i ⟨none, 0, 0⟩) ?_ hS26 ?_ (Ths.up_same _ _ _) (fun q c1 c2 => ?_)
        · rw [count_succ, if_pos hbD', wrap64 (by omega) (by omega)]; omega
        · rw [Ths.up_ne _ _ (by simp), Ths.up_same]
        · rw [Ths.up_ne _ _ c2, Ths.up_ne _ _ c1]; exact n24 q c1 c2
      · have hbD' := hbD.trans hbf
        refine next (hx := hx) (hl := hl) ?_ hS24 ?_ ?_ n24
        · rw [count_succ, if_neg (by rw [hbD']; simp)]; omega
        · rw [x24, keep_nil hiM hbD']
        · rw [l24, keep_nil hiM hbD']
    clear hq3
    have hie : i = k + m := by omega
    subst hie
    rw [full_take (by omega) (by omega)] at x24 l24
    have htr : ((List.range (k + m)).filter (fun r => E.getD r false)).length = c2 := by
      rw [← hEt, ← trues_range E, hEl]
    rw [htr]
    have w24w : T24 (.mx 2 2) = ShT sw hsw M1 := (n24 _ (by simp) (by simp)).trans w23w
    have hC24 : Cod T24 0 a f k m b Q es18 cl18 := hC23.next (fun i => n24 _ (by simp) (by simp))
    have hZm : (missL (nilM E M1)).length = c2 := (missL_nil hM1 hN1 hEl).trans hEt
    refine Cd_dec (fun hlo => ?_) (fun hlo => fin hS24 w24w hC24)
    refine Cl_mono (recon_ok hS24 hC24 x24 (by simp) (ngv 8) (hnE.trans hM1.1) (nilM_rows hM1) (by omega) hN1 (by omega) (by omega)) ?_
    rintro x25 w25 (⟨h1, _⟩ | ⟨_, rfl, hS25⟩ | ⟨h1, _⟩)
    · rw [h1] at hZm; simp at hZm; omega
    rotate_left
    · omega
    refine Cd_f ?_
    refine Cl_mono (reconD_ok hS25 hC24 x24 (by simp) (ngv 8) (hnE.trans hM1.1) (nilM_rows hM1) (by omega) hN1 (by omega) (by omega)) ?_
    rintro x26 w26 (⟨h1, _⟩ | ⟨_, rfl, hS26⟩ | ⟨h1, _⟩)
    · rw [h1] at hZm; simp at hZm; omega
    rotate_left
    · omega
    refine Cd_f ?_
    refine like hS26 x24 l24 (by omega) (fun r hr => by have := nilM_rows (B := E) hM1 r hr; omega) fun w27 hS27 => ?_
    exact fin hS27 w24w hC24
  refine Cd_dec (fun h0 => ?_) (fun h0 => round _ [] (Rds.nil _ _) (by simp) (by simp))
  obtain ⟨h, hh⟩ := atx (l := hr) (i := c - 1) (by omega)
  obtain ⟨P, p1, p2, p3⟩ := hP _ h hh
  refine Pu_idx (hS9.old hrr) tII sII (by omega) (by omega) fun ad y hy hcell _ => ?_
  rw [show ((c : Int) - 1).toNat = c - 1 by omega, hh] at hy
  cases hy
  refine Rd_one (c := .sl) (x := h) oII hcell ?_
  exact round h P p1 p2 p3
theorem back_open (n : CodeI) (hn : Code64 n) (W : World) (s1 : Sl) (x1 : List F8) (r1 : Rds f8v W s1 x1 ∧ x1.length ≤ 140737488355328) (s2 : Sl) (x2 : List Sl) (r2 : Rds slV W s2 x2 ∧ x2.length ≤ 140737488355328 ∧ ∀ (i : Nat) (h : Sl), x2[i]? = some h → ∃ P : List Int, Rds i64v W h P ∧ P.length ≤ 140737488355328 ∧ ∀ x ∈ P, I64 x) :
    Gv Tryz.prog 7 #[.agg #[.int .i64 n.1, .int .i64 n.2.1, .int .i64 n.2.2.1, .int .i64 n.2.2.2.1], .slice s1.base s1.len s1.cap, .slice s2.base s2.len s2.cap] (.bool true) W :=
  back_law n hn W s1 s2 x1 x2 r1.1 r2.1 r2.2.2 r1.2 r2.2.1
end Go.Proofs.YtbiilejgfihohaaGreat
namespace Go.Cu
open Go Go.RowKit Go.ChangeShapes Go.WideShapes
section
variable {H : Type} {enc : TypeId × Value → H} {P : Program}
def okW (P : Program) (t : TypeId) (d : DataW H) : Prop := ∀ n ∈ d.weights P t, n ≤ reachBytes
theorem okW_each {ts : List TypeId} {ds : List (DataW H)} {j : Nat} {t : TypeId} {d : DataW H} (h : (DataW.weightsEach P ts ds).all (· ≤ reachBytes) = true) (ht : ts[j]? = some t) (hd : ds[j]? = some d) : okW P t d :=
  fun n hn => by simpa using List.all_eq_true.1 h n (DataW.weights_mem_each ht hd n hn)
theorem weights_mem_all {e : TypeId} : ∀ {ds : List (DataW H)} {j : Nat} {d : DataW H}, ds[j]? = some d → ∀ n ∈ d.weights P e, n ∈ DataW.weightsAll P e ds
  | d0 :: ds, 0, d, hd, n, hn => by
    simp only [List.getElem?_cons_zero, Option.some.injEq] at hd
    subst hd
    simp only [DataW.weightsAll, List.mem_append]; exact .inl hn
  | d0 :: ds, j + 1, d, hd, n, hn => by
    simp only [List.getElem?_cons_succ] at hd
    simp only [DataW.weightsAll, List.mem_append]; exact .inr (weights_mem_all hd n hn)
theorem okW_slice {t e : TypeId} {elems sp : List (DataW H)} (h : okW P t (.slice elems sp)) (ht : P.underlying t = some (.slice e)) :
    (elems.length + sp.length) * P.bytesOf e ≤ reachBytes ∧ ∀ (j : Nat) (d : DataW H), elems[j]? = some d → okW P e d := by
  unfold okW at h
  simp only [DataW.weights, ht, List.mem_cons, List.mem_append] at h
  exact ⟨h _ (.inl rfl), fun j d hd n hn => h n (.inr (.inl (weights_mem_all hd n hn)))⟩
theorem open_nums {W : World} {base : Nat} {held : Bool} {t e : TypeId} {k : IntKind} {fuel : Nat} {v : Value} {x : DataW H × List MemPlace} (ht : P.underlying t = some (.slice e)) (he : P.underlying e = some (.int k)) (hc : P.cellsOf e = 1) (hb : 1 ≤ P.bytesOf e)
    (h : DataW.trod enc P W base (fun _ => true) held fuel t [v] = some x) (hw : okW P t x.1) :
    ∃ (s : Sl) (l : List Int), v = .slice s.base s.len s.cap ∧ Rds (.int k) W s l ∧ (∀ n ∈ l, (Lit.int k n).wf = true) ∧ l.length ≤ 140737488351232 := by
  rcases open_ints ht he hc h with ⟨h1, rfl⟩ | ⟨a, len, cap, zs, h1, _, hl, hm, hz, rfl, hcell, hwf⟩
  · injection h1 with h1 _
    subst h1
    exact ⟨⟨none, 0, 0⟩, [], rfl, Rds.nil _ _, by simp, by simp⟩
  · injection h1 with h1 _
    subst h1
    simp only [if_true] at hz
    have hwt := (okW_slice hw ht).1
    have hmul : ∀ n, n * 1 ≤ n * P.bytesOf e := fun n => Nat.mul_le_mul_left n hb
    have hlen : (zs.take len).length = len := by rw [List.length_take]; omega
    have := hmul ((lits (H := H) k (zs.take len)).length + (lits (H := H) k (zs.drop len)).length)
    have e1 : (lits (H := H) k (zs.take len)).length = len := by simp [lits]; omega
    have hr : reachBytes = 140737488351232 := rfl
    refine ⟨⟨some a, len, cap⟩, zs.take len, rfl, ⟨hlen.symm, hl, fun i x hi => ⟨a, rfl, ?_⟩⟩, fun n hn => hwf n (List.mem_of_mem_take hn), by omega⟩
    rw [List.getElem?_take] at hi
    split at hi
    · have hi' : i < zs.length := (List.getElem?_eq_some_iff.1 hi).1
      rw [hcell i hi', List.getD_eq_getElem?_getD, hi]; rfl
    · cases hi
theorem one_of_take {cs : List Value} {o : Nat} {v : Value} (h : (cs.drop o).take 1 = [v]) : cs[o]? = some v := by
  have : ((cs.drop o).take 1)[0]? = some v := by rw [h]; rfl
  rw [List.getElem?_take, if_pos (by omega), List.getElem?_drop] at this
  simpa using this
end
end Go.Cu
namespace Go.Cu
open Go Go.RowKit Go.ChangeShapes Go.WideShapes
section
variable {H : Type} {enc : TypeId × Value → H} {P : Program}
theorem trodAll_ex (hl : laidOutB P = true) {W W' : World} (hx : Ex W W') : ∀ {ts : List TypeId} {vs : List Value} {ds : List (DataW H)} {ps : List MemPlace}, (∀ t ∈ ts, P.readableRec t = true ∧ t < P.types.size) →
    DataW.TrodAll enc P W 0 (fun _ => true) true ts vs ds ps → DataW.TrodAll enc P W' 0 (fun b => decide (b < W.heap.size)) true ts vs ds ps
  | [], vs, ds, ps, _, h => by
    obtain ⟨rfl, rfl, rfl⟩ := trodAll_nil h
    exact rfl
  | t :: ts, vs, ds, ps, hr, h => by
    obtain ⟨v, vs', d, ds', p, q, rfl, rfl, rfl, h0, h1⟩ := trodAll_cons h
    obtain ⟨r1, r2⟩ := hr t List.mem_cons_self
    have hlt : ∀ x ∈ p, x.block < W.heap.size := by
      obtain ⟨fuel, hf⟩ := h0
      exact fun x hx' => DataW.trod_lt fuel _ _ _ hf x hx'
    exact ⟨p, q, Below.trod hl r1 r2 h0 hx.below hlt, trodAll_ex hl hx (fun t ht => hr t (List.mem_cons_of_mem _ ht)) h1, rfl⟩
theorem trodAll_len : ∀ {ts : List TypeId} {vs : List Value} {ds : List (DataW H)} {ps : List MemPlace} {W : World}, DataW.TrodAll enc P W 0 (fun _ => true) true ts vs ds ps → ds.length = ts.length
  | [], vs, ds, ps, W, h => by obtain ⟨rfl, rfl, rfl⟩ := trodAll_nil h; rfl
  | t :: ts, vs, ds, ps, W, h => by
    obtain ⟨v, vs', d, ds', p, q, rfl, rfl, rfl, h0, h1⟩ := trodAll_cons h
    simp [trodAll_len h1]
theorem contract_all {f : FuncId} {fn : Func} {s : ChangeSpec} {ts : List TypeId} {tb : TypeId} {laid : List (String × DataW Unit)} (hpar : fn.params.toList = ts) (hres : fn.resultTypes.toList = [tb]) (hb : P.underlying tb = some .bool)
    (hl : laidOutB P = true) (hr : ∀ t ∈ ts, P.readableRec t = true ∧ t < P.types.size) (hvars : s.vars = []) (hfn : ∀ ds : List (DataW H), ds.length = ts.length → s.fn H (ds ++ []) = { results := [.lit (.bool true)], args := ds })
    (hcall : ∀ (W : World) (base : Nat) (args : Array Value) (ds : List (DataW H)) (p : List MemPlace), (∀ (j : Nat) t v, ts[j]? = some t → args.toList[j]? = some v → Value.okWide P W .any base t v) → DataW.TrodAll enc P W 0 (fun _ => true) true ts args.toList ds p →
      (∀ (j : Nat) t d, ts[j]? = some t → ds[j]? = some d → okW P t d) → laidMetH P laid W → Gv P f args (.bool true) W)
    (W : World) (base : Nat) (args : Array Value) (ds gs : List (DataW H)) (before : List MemPlace) (hval : ∀ (j : Nat) t v, fn.params[j]? = some t → args[j]? = some v → Value.okWide P W .any base t v)
    (hW : DataW.Whole enc P fn.params.toList s.vars false W args.toList ds gs before)
    (hwt : (DataW.weightsEach P (fn.params.toList ++ (OpenSpec.ofChange s).bare.plain.varTypes P) (ds ++ gs)).all (· ≤ reachBytes) = true) (hL : laidMetH P laid W) :
    Calls P f args W fun e W' => ∃ v, e = .returned v ∧ s.post enc P fn false true false false W args v W' := by
  have hW' := hW
  obtain ⟨p, q, hA, hV, hpq, _, _⟩ := hW
  rw [hpar] at hA
  rw [hvars] at hV
  obtain ⟨rfl, rfl⟩ := trodVars_none hV
  refine (hcall W base args ds p (fun j t v ht hv => hval j t v (by rw [← Array.getElem?_toList, hpar]; exact ht) (by rw [← Array.getElem?_toList]; exact hv)) hA (fun j t d ht hd => ?_) hL).mono fun e W1 ⟨he, hx⟩ => ⟨_, he, ?_⟩
  · refine okW_each (j := j) hwt ?_ ?_
    · rw [hpar]
      rw [List.getElem?_append_left (List.getElem?_eq_some_iff.1 ht).1]; exact ht
    · rw [List.append_nil]; exact hd
  · have hlen := trodAll_len hA
    have hsz : fn.resultTypes.size = 1 := by rw [← Array.length_toList, hres]; rfl
    refine ⟨ds, [], before, [], p, [], hW', ?_, ?_, ?_, hx.below.frame _, fun h => by cases h⟩
    · rw [hres, hsz, hfn ds hlen]; exact trodAll_mk1 (shut_bool hb true)
    · rw [hpar, hfn ds hlen]; exact trodAll_ex hl hx hr hA
    · rw [hvars, hfn ds hlen]; rfl
theorem open_nest {W : World} {base : Nat} {held : Bool} {t e1 e : TypeId} {k : IntKind} {fuel : Nat} {v : Value} {x : DataW H × List MemPlace} (ht : P.underlying t = some (.slice e1)) (ht1 : P.underlying e1 = some (.slice e)) (he : P.underlying e = some (.int k)) (hc1 : P.cellsOf e1 = 1) (hc : P.cellsOf e = 1) (hb : 1 ≤ P.bytesOf e)
    (h : DataW.trod enc P W base (fun _ => true) held fuel t [v] = some x) (hw : okW P t x.1) :
    ∃ (s : Sl) (ls : List (List Int)), v = .slice s.base s.len s.cap ∧ Nest (.int k) (fun _ => True) W s ls ∧ ls.length * P.bytesOf e1 ≤ 140737488351232 ∧ ∀ l ∈ ls, (∀ n ∈ l, (Lit.int k n).wf = true) ∧ l.length ≤ 140737488351232 := by
  have hr : reachBytes = 140737488351232 := rfl
  rcases Deep.open_slice1 ht hc1 h with ⟨h1, rfl⟩ | ⟨a, len, cap, m, n, V, D, Pl, h1, _, hl, hm, hmm, rfl, hx⟩
  · injection h1 with h1 _
    subst h1
    exact ⟨⟨none, 0, 0⟩, [], rfl, Nest.nil _ _ _, by simp, by simp⟩
  · injection h1 with h1 _
    subst h1
    simp only [if_true] at hmm
    obtain ⟨hwt, hwe⟩ := okW_slice hw ht
    have each : ∀ i, i < len → ∃ q : Sl × List Int, V i = .slice q.1.base q.1.len q.1.cap ∧ Rds (.int k) W q.1 q.2 ∧ (∀ n ∈ q.2, (Lit.int k n).wf = true) ∧ q.2.length ≤ 140737488351232 := by
      intro i hi
      obtain ⟨q1, q2⟩ := hx i (by omega)
      obtain ⟨s, l, hv, hr, hwf, hlen⟩ := open_nums ht1 he hc hb q2 (hwe i (D i) (by rw [List.getElem?_map, List.getElem?_range hi]; rfl))
      exact ⟨(s, l), hv, hr, hwf, hlen⟩
    have inh : Inhabited (Sl × List Int) := ⟨(⟨none, 0, 0⟩, [])⟩
    obtain ⟨f, hfi⟩ := Deep.choose_lt each
    have hlen : ((List.range len).map fun i => (f i).2).length = len := by simp
    have hge : len * P.bytesOf e1 ≤ 140737488351232 := by
      have e1' : ((List.range len).map D).length = len := by simp
      have := Nat.mul_le_mul_right (P.bytesOf e1) (Nat.le_add_right ((List.range len).map D).length ((List.range (m - len)).map fun j => D (len + j)).length)
      rw [e1'] at this hwt
      omega
    refine ⟨⟨some a, len, cap⟩, (List.range len).map fun i => (f i).2, rfl, ⟨(List.range len).map fun i => (f i).1, ⟨by simp, hl, fun i x hi => ⟨a, rfl, ?_⟩⟩, by simp, fun _ _ => trivial, fun i s' l hs hl' => ⟨?_, fun _ _ => trivial⟩⟩, by rw [hlen]; exact hge, fun l hl' => ?_⟩
    · have hi' : i < len := by have := (List.getElem?_eq_some_iff.1 hi).1; simpa using this
      rw [List.getElem?_map, List.getElem?_range hi'] at hi
      cases hi
      rw [(hx i (by omega)).1, (hfi i hi').1]
    · have hi' : i < len := by have := (List.getElem?_eq_some_iff.1 hs).1; simpa using this
      rw [List.getElem?_map, List.getElem?_range hi'] at hs hl'
      cases hs
      cases hl'
      exact (hfi i hi').2.1
    · obtain ⟨i, hi, rfl⟩ := List.mem_map.1 hl'
      exact (hfi i (List.mem_range.1 hi)).2.2
end
end Go.Cu
namespace Go.Proofs.YtbiilejgfihohaaGreat
open Go Go.Cu Go.ChangeShapes Go.WideShapes Go.RowKit
theorem ownKn : ownKnob Tryz.prog.godebug = none := by kernel_rfl
theorem laidOut : laidOutB Tryz.prog = true := by kernel_rfl
theorem uBool : Program.underlying Tryz.prog 4 = some .bool := by kernel_rfl
theorem uIntO : Program.underlying Tryz.prog 3 = some (.int .i64) := by kernel_rfl
theorem uU8O : Program.underlying Tryz.prog 5 = some (.int .u8) := by kernel_rfl
theorem cIntO : Program.cellsOf Tryz.prog 3 = 1 := by kernel_rfl
theorem cU8O : Program.cellsOf Tryz.prog 5 = 1 := by kernel_rfl
theorem cCode : Program.cellsOf Tryz.prog 23 = 4 := by kernel_rfl
theorem uCode : Program.underlying Tryz.prog 23 = some (.struct (Program.fieldsOf Tryz.prog 23)) := by kernel_rfl
theorem fCode : (Program.fieldsOf Tryz.prog 23).map (fun f => (f.type, f.offset)) = #[(3, 0), (3, 1), (3, 2), (3, 3)] := by kernel_rfl
theorem field_at {fs : Array Field} {l : Array (TypeId × Nat)} (h : fs.map (fun f => (f.type, f.offset)) = l) {i : Nat} {t : TypeId} {o : Nat} (hi : l[i]? = some (t, o)) : ∃ f, fs[i]? = some f ∧ f.type = t ∧ f.offset = o := by
  rw [← h, Array.getElem?_map] at hi
  cases hf : fs[i]? with
  | none => rw [hf] at hi; cases hi
  | some f =>
    rw [hf] at hi
    simp only [Option.map_some, Option.some.injEq, Prod.mk.injEq] at hi
    exact ⟨f, rfl, hi.1, hi.2⟩
section
variable {H : Type} {enc : TypeId × Value → H}
theorem wf_i64 {z : Int} (h : (Lit.int .i64 z).wf = true) : I64 z := by
  simp only [Lit.wf, IntKind.min, IntKind.max, IntKind.signed, IntKind.bits, Bool.and_eq_true, decide_eq_true_eq] at h
  simp at h
  exact h
theorem wf_u8 {z : Int} (h : (Lit.int .u8 z).wf = true) : 0 ≤ z ∧ z < 256 := by
  simp only [Lit.wf, IntKind.min, IntKind.max, IntKind.signed, IntKind.bits, Bool.and_eq_true, decide_eq_true_eq] at h
  simp at h
  omega
theorem open_code {W : World} {fuel : Nat} {v : Value} {x : DataW H × List MemPlace} (h : DataW.trod enc Tryz.prog W 0 (fun _ => true) true fuel 23 v.cells.toList = some x) :
    ∃ n : CodeI, v = .agg #[.int .i64 n.1, .int .i64 n.2.1, .int .i64 n.2.2.1, .int .i64 n.2.2.2.1] ∧ Code64 n := by
  obtain ⟨xs, n, _, rfl, hlen, hxs, hfs⟩ := DataW.trod_struct uCode h
  rw [cCode] at hlen
  have hsz : (Program.fieldsOf Tryz.prog 23).size = 4 := by have := congrArg Array.size fCode; simpa using this
  have num : ∀ (i : Nat), i < 4 → #[(3, 0), (3, 1), (3, 2), (3, 3)][i]? = some (3, i) → ∃ z, v.cells.toList[i]? = some (.int .i64 z) ∧ I64 z := by
    intro i hi hl
    obtain ⟨f, hfi, e1, e2⟩ := field_at fCode hl
    have := hfs i f hfi
    rw [List.getElem?_eq_getElem (by omega), e1, e2, cIntO] at this
    obtain ⟨z, hz, _, hwf⟩ := DataW.trod_int uIntO this
    exact ⟨z, one_of_take hz, wf_i64 hwf⟩
  obtain ⟨z0, e0, w0⟩ := num 0 (by omega) rfl
  obtain ⟨z1, e1, w1⟩ := num 1 (by omega) rfl
  obtain ⟨z2, e2, w2⟩ := num 2 (by omega) rfl
  obtain ⟨z3, e3, w3⟩ := num 3 (by omega) rfl
  have hcs : v.cells.toList = [.int .i64 z0, .int .i64 z1, .int .i64 z2, .int .i64 z3] := by
    generalize v.cells.toList = cs at hlen e0 e1 e2 e3
    match cs, hlen with
    | [a0, a1, a2, a3], _ =>
      simp only [List.getElem?_cons_zero, List.getElem?_cons_succ, Option.some.injEq] at e0 e1 e2 e3
      subst e0 e1 e2 e3
      rfl
  refine ⟨(z0, z1, z2, z3, ()), ?_, ⟨w0, w1, w2, w3⟩⟩
  cases v with
  | agg cs =>
    have : cs.toList = [.int .i64 z0, .int .i64 z1, .int .i64 z2, .int .i64 z3] := hcs
    congr 1
    exact Array.toList_inj.1 (by rw [this])
  | _ => exact absurd (congrArg List.length hcs) (by simp [Value.cells])
theorem open_bytes {W : World} {fuel : Nat} {v : Value} {x : DataW H × List MemPlace} (h : DataW.trod enc Tryz.prog W 0 (fun _ => true) true fuel 24 [v] = some x) (hw : okW Tryz.prog 24 x.1) :
    ∃ (s : Sl) (l : List F8), v = .slice s.base s.len s.cap ∧ Rds f8v W s l ∧ l.length ≤ 140737488355328 := by
  obtain ⟨s, l, hv, hr, hwf, hl⟩ := open_nums (k := .u8) tB uU8O cU8O (Nat.le_of_ble_eq_true (by kernel_rfl)) h hw
  refine ⟨s, l.map (fun z => BitVec.ofNat 8 z.toNat), hv, ⟨by rw [List.length_map]; exact hr.1, hr.2.1, fun i y hi => ?_⟩, by rw [List.length_map]; omega⟩
  rw [List.getElem?_map] at hi
  cases hz : l[i]? with
  | none => rw [hz] at hi; cases hi
  | some z =>
    rw [hz] at hi
    cases hi
    obtain ⟨a, ha, hc⟩ := hr.2.2 i z hz
    refine ⟨a, ha, ?_⟩
    have hb := wf_u8 (hwf z (List.mem_of_getElem? hz))
    have e : ((BitVec.ofNat 8 z.toNat).toNat : Int) = z := by
      rw [BitVec.toNat_ofNat, Nat.mod_eq_of_lt (by omega)]; omega
    show W.cell? (a.add i) = some (.int .u8 ((BitVec.ofNat 8 z.toNat).toNat : Int))
    rw [e]
    exact hc
end
noncomputable abbrev zeroCode : Value := .agg #[.int .i64 0, .int .i64 0, .int .i64 0, .int .i64 0]
end Go.Proofs.YtbiilejgfihohaaGreat
namespace Go.Proofs.YtbiilejgfihohaaGreat
open Go Go.Cu Go.ChangeShapes Go.WideShapes Go.RowKit
theorem cIIO : Program.cellsOf Tryz.prog 25 = 1 := by kernel_rfl
theorem bIIO : 1 ≤ Program.bytesOf Tryz.prog 25 := Nat.le_of_ble_eq_true (by kernel_rfl)
section
variable {H : Type} {enc : TypeId × Value → H}
theorem open_lists {W : World} {fuel : Nat} {v : Value} {x : DataW H × List MemPlace} (h : DataW.trod enc Tryz.prog W 0 (fun _ => true) true fuel 53 [v] = some x) (hw : okW Tryz.prog 53 x.1) :
    ∃ (s : Sl) (l : List Sl), v = .slice s.base s.len s.cap ∧ Rds slV W s l ∧ l.length ≤ 140737488355328 ∧ ∀ (i : Nat) (h : Sl), l[i]? = some h → ∃ P : List Int, Rds i64v W h P ∧ P.length ≤ 140737488355328 ∧ ∀ x ∈ P, I64 x := by
  obtain ⟨s, ls, hv, ⟨ss, h1, h2, _, h3⟩, h4, h5⟩ := open_nest tII tI uIntO cIIO cIntO (Nat.le_of_ble_eq_true (by kernel_rfl)) h hw
  have hb := bIIO
  refine ⟨s, ss, hv, h1, ?_, fun i g hg => ?_⟩
  · have : ls.length * 1 ≤ ls.length * Program.bytesOf Tryz.prog 25 := Nat.mul_le_mul_left _ hb
    omega
  · have hi := (List.getElem?_eq_some_iff.1 hg).1
    obtain ⟨l, hl⟩ := atx (l := ls) (i := i) (by omega)
    obtain ⟨a, b⟩ := h5 l (List.mem_of_getElem? hl)
    exact ⟨l, (h3 i g l hg hl).1, by omega, fun z hz => wf_i64 (a z hz)⟩
theorem trodAll_three {w : World} {base : Nat} {spare : Nat → Bool} {held : Bool} {t0 t1 t2 : TypeId} {args : Array Value} {ds : List (DataW H)} {ps : List MemPlace} (h : DataW.TrodAll enc Tryz.prog w base spare held [t0, t1, t2] args.toList ds ps) :
    ∃ v0 v1 v2 d0 d1 d2 p0 p1 p2, args = #[v0, v1, v2] ∧ ds = [d0, d1, d2] ∧ ps = p0 ++ (p1 ++ p2) ∧ DataW.Trod enc Tryz.prog w base spare held t0 v0 d0 p0 ∧ DataW.Trod enc Tryz.prog w base spare held t1 v1 d1 p1 ∧ DataW.Trod enc Tryz.prog w base spare held t2 v2 d2 p2 := by
  obtain ⟨v0, vs0, d0, ds0, p0, q0, hargs, rfl, rfl, h0, r0⟩ := trodAll_cons h
  obtain ⟨v1, vs1, d1, ds1, p1, q1, rfl, rfl, rfl, h1, r1⟩ := trodAll_cons r0
  obtain ⟨v2, vs2, d2, ds2, p2, q2, rfl, rfl, rfl, h2, r2⟩ := trodAll_cons r1
  obtain ⟨rfl, rfl, rfl⟩ := trodAll_nil r2
  exact ⟨v0, v1, v2, d0, d1, d2, p0, p1, p2, by cases args; simp_all, rfl, by simp, h0, h1, h2⟩
end
end Go.Proofs.YtbiilejgfihohaaGreat
