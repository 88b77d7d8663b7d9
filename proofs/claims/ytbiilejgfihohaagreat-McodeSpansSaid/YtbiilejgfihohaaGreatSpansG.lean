/- A part of what the last text of this claim leans on. -/
import Derived.Test.YtbiilejgfihohaaGreatSpansF
import Derived.Test.YtbiilejgfihohaaGreatProg
import Derived.ChangeSlices
import Derived.ChangeArms
import Derived.Deep.Slices
import Derived.Deep.DeepHandedRow
import Derived.Lib.LaidTab
import Derived.Carry
import Derived.SizedLaws
import Derived.Test.YtbiilejgfihohaaGreatRows
import Derived.WalkKit
import Derived.ProofKit
import Derived.OpenShut
set_option linter.all false
set_option maxHeartbeats 4000000
set_option maxRecDepth 100000
set_option autoImplicit false
namespace Go.Proofs.YtbiilejgfihohaaGreat
open Go Go.Cu
theorem mix_eqg : Tryz.prog.follows .mixedOrders = true := by kernel_rfl
noncomputable def mC_fits.body : Code := (Tryz.f48.body).getD .skip
def mC_fits.j3 (R : EPq)  (k2 : ((Option Addr) × Addr × Sl × Sl × Int × Int × Unit) → WPq) (v0 : (Option Addr)) (v3 : Addr) (v5 : Sl) (t63 : Sl) (t64 : Int) (t65 : Int) (t86 : Bool) (w : World) : Prop :=
  Cd t86 (R (.returned (.bool false)) w) (k2 (v0, v3, v5, t63, t64, (IntKind.wrap .i64 (t65 + 1)), ()) w)
def mC_fits.b2 (R : EPq) (k2 : ((Option Addr) × Addr × Sl × Sl × Int × Int × Unit) → WPq) (v0 : (Option Addr)) (v3 : Addr) (v5 : Sl) (t63 : Sl) (t64 : Int) (t65 : Int) (w : World) : Prop :=
  Cd (decide (t65 < t64)) (Pu Tryz.prog (Instr.indexAt 25 (.slice t63.base t63.len t63.cap) (.int .i64 t65)) (.one (.at .addr)) (fun (x14 : Addr) w15 =>
  Rd Tryz.prog (Instr.loadAt 3 (.pointer (some x14))) (.one (.at (.int .i64))) (fun (x16 : Int) w17 =>
  Pu Tryz.prog (Instr.indexAt 36 (.slice v5.base v5.len v5.cap) (.int .i64 x16)) (.one (.at .addr)) (fun (x18 : Addr) w19 =>
  RdS Tryz.prog (Same w17.drew) (Instr.loadAt 4 (.pointer (some x18))) (.one (.at .bool)) (fun (x20 : Bool) w21 =>
  Cd x20 (mC_fits.j3 R k2 v0 v3 v5 t63 t64 t65 true w21) (RdS Tryz.prog (Same w17.drew) (Instr.loadAt 30 (.pointer (some (Addr.add v3 2)))) (.one (.at .sl)) (fun (x22 : Sl) w23 =>
  Pu Tryz.prog (Instr.indexAt 30 (.slice x22.base x22.len x22.cap) (.int .i64 t65)) (.one (.at .addr)) (fun (x24 : Addr) w25 =>
  RdS Tryz.prog (Same w17.drew) (Instr.loadAt 24 (.pointer (some x24))) (.one (.at .sl)) (fun (x26 : Sl) w27 =>
  Pu Tryz.prog (nilCk v0) (.one (.at .addr)) (fun (x28 : Addr) w29 =>
  RdS Tryz.prog (Same w17.drew) (Instr.loadAt 3 (.pointer (some (Addr.add x28 1)))) (.one (.at (.int .i64))) (fun (x30 : Int) w31 =>
  mC_fits.j3 R k2 v0 v3 v5 t63 t64 t65 (((x26.len : Nat) : Int) != x30) w31) w29) w27) w25) w23) w21)) w19) w17.drew) w15) w) (R (.returned (.bool true)) w)
def mC_fits.l2 (R : EPq) : ((Option Addr) × Addr × Sl × Sl × Int × Int × Unit) → World → Prop := loopW (fun k2 s w => mC_fits.b2 R k2 s.1 s.2.1 s.2.2.1 s.2.2.2.1 s.2.2.2.2.1 s.2.2.2.2.2.1 w)
def mC_fits.b1 (R : EPq) (k1 : ((Option Addr) × Addr × Sl × Sl × Int × Int × Unit) → WPq) (v0 : (Option Addr)) (v3 : Addr) (v5 : Sl) (t52 : Sl) (t53 : Int) (t54 : Int) (w : World) : Prop :=
  Cd (decide (t54 < t53)) (Pu Tryz.prog (Instr.indexAt 25 (.slice t52.base t52.len t52.cap) (.int .i64 t54)) (.one (.at .addr)) (fun (x5 : Addr) w6 =>
  Rd Tryz.prog (Instr.loadAt 3 (.pointer (some x5))) (.one (.at (.int .i64))) (fun (x7 : Int) w8 =>
  Pu Tryz.prog (Instr.indexAt 36 (.slice v5.base v5.len v5.cap) (.int .i64 x7)) (.one (.at .addr)) (fun (x9 : Addr) w10 =>
  Wu Tryz.prog (Instr.storeAt 4 (.pointer (some x9)) (.bool true)) (fun w11 =>
  k1 (v0, v3, v5, t52, t53, (IntKind.wrap .i64 (t54 + 1)), ()) w11) w10) w8) w6) w) (Rd Tryz.prog (Instr.loadAt 25 (.pointer (some v3))) (.one (.at .sl)) (fun (x12 : Sl) w13 =>
  mC_fits.l2 R (v0, v3, v5, x12, ((x12.len : Nat) : Int), 0, ()) w13) w)
def mC_fits.l1 (R : EPq) : ((Option Addr) × Addr × Sl × Sl × Int × Int × Unit) → World → Prop := loopW (fun k1 s w => mC_fits.b1 R k1 s.1 s.2.1 s.2.2.1 s.2.2.2.1 s.2.2.2.2.1 s.2.2.2.2.2.1 w)
def mC_fits.j2 (R : EPq)  (v0 : (Option Addr)) (v3 : Addr) (v5 : Sl) (w : World) : Prop :=
  Rd Tryz.prog (Instr.loadAt 25 (.pointer (some (Addr.add v3 1)))) (.one (.at .sl)) (fun (x3 : Sl) w4 =>
  mC_fits.l1 R (v0, v3, v5, x3, ((x3.len : Nat) : Int), 0, ()) w4) w
def mC_fits.j1 (R : EPq)  (v0 : (Option Addr)) (v3 : Addr) (t40 : Bool) (w : World) : Prop :=
  Cd t40 (R (.returned (.bool false)) w) (Held w.drew (fun S32 => Pu Tryz.prog (nilCk v0) (.one (.at .addr)) (fun (x33 : Addr) w34 =>
  RdS Tryz.prog S32 (Instr.loadAt 3 (.pointer (some (Addr.add x33 1)))) (.one (.at (.int .i64))) (fun (x35 : Int) w36 =>
  Pu Tryz.prog (nilCk v0) (.one (.at .addr)) (fun (x37 : Addr) w38 =>
  RdS Tryz.prog S32 (Instr.loadAt 3 (.pointer (some (Addr.add x37 2)))) (.one (.at (.int .i64))) (fun (x39 : Int) w40 =>
  Wr Tryz.prog (Instr.makeSlice 36 (.int .i64 (IntKind.wrap .i64 (x35 + x39))) (.int .i64 (IntKind.wrap .i64 (x35 + x39)))) (.one (.at .sl)) (fun (x41 : Sl) w42 =>
  S32 w42 ∧ (mC_fits.j2 R v0 v3 x41 w42)) w40) w38) w36) w34) w.drew))
def mC_fits.M (R : EPq) (v0 : (Option Addr)) (v1 : (Sl × Sl × Sl × Sl × Unit)) (w : World) : Prop :=
  Wr Tryz.prog (Instr.box 49 (.agg #[(.slice v1.1.base v1.1.len v1.1.cap), (.slice v1.2.1.base v1.2.1.len v1.2.1.cap), (.slice v1.2.2.1.base v1.2.2.1.len v1.2.2.1.cap), (.slice v1.2.2.2.1.base v1.2.2.2.1.len v1.2.2.2.1.cap)])) (.one (.at .addr)) (fun (x1 : Addr) w2 =>
  Held w2.drew (fun S43 => RdS Tryz.prog S43 (Instr.loadAt 25 (.pointer (some x1))) (.one (.at .sl)) (fun (x44 : Sl) w45 =>
  Cl Tryz.prog 40 #[(.pointer v0), (.slice x44.base x44.len x44.cap)] (.one (.at .bool)) (fun (x46 : Bool) w47 =>
  S43 w47 ∧ (Cd (!x46) (mC_fits.j1 R v0 x1 true w47) (RdS Tryz.prog S43 (Instr.loadAt 25 (.pointer (some (Addr.add x1 1)))) (.one (.at .sl)) (fun (x48 : Sl) w49 =>
  Cl Tryz.prog 40 #[(.pointer v0), (.slice x48.base x48.len x48.cap)] (.one (.at .bool)) (fun (x50 : Bool) w51 =>
  S43 w51 ∧ (Cd (!x50) (mC_fits.j1 R v0 x1 true w51) (RdS Tryz.prog S43 (Instr.loadAt 25 (.pointer (some (Addr.add x1 1)))) (.one (.at .sl)) (fun (x52 : Sl) w53 =>
  Pu Tryz.prog (nilCk v0) (.one (.at .addr)) (fun (x54 : Addr) w55 =>
  RdS Tryz.prog S43 (Instr.loadAt 3 (.pointer (some (Addr.add x54 1)))) (.one (.at (.int .i64))) (fun (x56 : Int) w57 =>
  Cd (((x52.len : Nat) : Int) != x56) (mC_fits.j1 R v0 x1 true w57) (RdS Tryz.prog S43 (Instr.loadAt 30 (.pointer (some (Addr.add x1 2)))) (.one (.at .sl)) (fun (x58 : Sl) w59 =>
  RdS Tryz.prog S43 (Instr.loadAt 25 (.pointer (some x1))) (.one (.at .sl)) (fun (x60 : Sl) w61 =>
  mC_fits.j1 R v0 x1 (((x58.len : Nat) : Int) != ((x60.len : Nat) : Int)) w61) w59) w57)) w55) w53) w51))) w49) w47))) w45) w2.drew)) w
noncomputable def mC_fits.ann (R : EPq) : Ann :=
  .seq (.reg (.op 0 (.wr (.one (.at .addr))) (.op 1 .now (.done)))) (.seq (.join [(0, qcP), (3, .at .addr), (40, .at .bool)] (fun s w => mC_fits.j1 R s.1 s.2.1 s.2.2.1 w) (.regD (.op 0 .now (.op 1 .now (.op 2 qrS (.op 3 (.cl (.one (.at .bool))) (.op 4 .now (.op 5 .now (.split 5 (.skip 6 (.skip 7 (.skip 8 (.skip 9 (.skip 10 (.op 11 .now (.op 12 .now (.skip 13 (.skip 14 (.skip 15 (.skip 16 (.skip 17 (.skip 18 (.skip 19 (.skip 20 (.op 21 .now (.op 22 .now (.skip 23 (.skip 24 (.skip 25 (.skip 26 (.skip 27 (.skip 28 (.skip 29 (.op 30 .now (.done)))))))))))))))))))))))))) (.op 6 .now (.op 7 .now (.op 8 qrS (.op 9 (.cl (.one (.at .bool))) (.op 10 .now (.op 11 .now (.op 12 .now (.split 12 (.skip 13 (.skip 14 (.skip 15 (.skip 16 (.skip 17 (.skip 18 (.skip 19 (.skip 20 (.op 21 .now (.op 22 .now (.skip 23 (.skip 24 (.skip 25 (.skip 26 (.skip 27 (.skip 28 (.skip 29 (.op 30 .now (.done))))))))))))))))))) (.op 13 .now (.op 14 qrS (.op 15 .now (.op 16 .now (.op 17 qpA (.op 18 .now (.op 19 (.rd (.one qcI)) (.op 20 .now (.op 21 .now (.op 22 .now (.split 22 (.skip 23 (.skip 24 (.skip 25 (.skip 26 (.skip 27 (.skip 28 (.skip 29 (.op 30 .now (.done))))))))) (.op 23 .now (.op 24 qrS (.op 25 .now (.op 26 .now (.op 27 qrS (.op 28 .now (.op 29 .now (.op 30 .now (.done)))))))))))))))))))))))))))))))))))) (.cond (.seq (.reg qN1) (.leaf)) (.leaf))) (.join [(0, qcP), (3, .at .addr), (5, qcS)] (fun s w => mC_fits.j2 R s.1 s.2.1 s.2.2.1 w) (.regD (.op 0 .now (.op 1 qpA (.op 2 .now (.op 3 (.rd (.one qcI)) (.op 4 .now (.op 5 qpA (.op 6 .now (.op 7 (.rd (.one qcI)) (.op 8 .now (.op 9 (.wr (.one qcS)) (.op 10 .now (.done))))))))))))) (.seq (.seq (.reg (.op 0 .now (.op 1 qrS (.op 2 .now (.op 3 .now (.done)))))) (.block (.loop [(0, qcP), (3, .at .addr), (5, qcS), (52, qcS), (53, qcI), (54, qcI)] (fun k1 s w => mC_fits.b1 R k1 s.1 s.2.1 s.2.2.1 s.2.2.2.1 s.2.2.2.2.1 s.2.2.2.2.2.1 w) (fun k1 => .seq (.reg qN1) (.seq (.cond (.leaf) (.leaf)) (.seq (.block (.seq (.reg (.op 0 qpA (.op 1 (.rd (.one qcI)) (.op 2 .now (.done))))) (.reg (.op 0 .now (.op 1 .now (.op 2 qpA (.op 3 .wu (.done)))))))) (.reg qN2))))))) (.seq (.seq (.reg (.op 0 .now (.op 1 qrS (.op 2 .now (.op 3 .now (.done)))))) (.block (.loop [(0, qcP), (3, .at .addr), (5, qcS), (63, qcS), (64, qcI), (65, qcI)] (fun k2 s w => mC_fits.b2 R k2 s.1 s.2.1 s.2.2.1 s.2.2.2.1 s.2.2.2.2.1 s.2.2.2.2.2.1 w) (fun k2 => .seq (.reg qN1) (.seq (.cond (.leaf) (.leaf)) (.seq (.block (.seq (.reg (.op 0 .now (.op 1 qpA (.op 2 (.rd (.one qcI)) (.op 3 .now (.op 4 .now (.done))))))) (.join [(0, qcP), (3, .at .addr), (5, qcS), (63, qcS), (64, qcI), (65, qcI), (86, .at .bool)] (fun s w => mC_fits.j3 R k2 s.1 s.2.1 s.2.2.1 s.2.2.2.1 s.2.2.2.2.1 s.2.2.2.2.2.1 s.2.2.2.2.2.2.1 w) (.regQ (.op 0 .now (.op 1 .now (.op 2 qpA (.op 3 (.rd (.one (.at .bool))) (.op 4 .now (.split 4 (.skip 5 (.skip 6 (.skip 7 (.skip 8 (.skip 9 (.skip 10 (.skip 11 (.skip 12 (.skip 13 (.skip 14 (.skip 15 (.op 16 .now (.done))))))))))))) (.op 5 .now (.op 6 qrS (.op 7 .now (.op 8 qpA (.op 9 qrS (.op 10 .now (.op 11 .now (.op 12 qpA (.op 13 .now (.op 14 (.rd (.one qcI)) (.op 15 .now (.op 16 .now (.done)))))))))))))))))))) (.cond (.seq (.reg qN1) (.leaf)) (.leaf))))) (.reg qN2))))))) (.seq (.reg qN1) (.leaf))))))
theorem mC_fits.run (R : EPq) (v0 : (Option Addr)) (v1 : (Sl × Sl × Sl × Sl × Unit)) (w : World) (h : mC_fits.M R v0 v1 w) : Calls Tryz.prog 48 #[(.pointer v0), (.agg #[(.slice v1.1.base v1.1.len v1.1.cap), (.slice v1.2.1.base v1.2.1.len v1.2.1.cap), (.slice v1.2.2.1.base v1.2.2.1.len v1.2.2.1.cap), (.slice v1.2.2.2.1.base v1.2.2.2.1.len v1.2.2.2.1.cap)])] w R := by
  refine calls_of_lift mix_eqg Tryz.func48 (c := mC_fits.body) (by kernel_rfl) [.at .bool] (mC_fits.ann R) 88 Tryz.ntmps48 [.tmp 4] (by kernel_rfl) (Nat.le_of_ble_eq_true (by kernel_rfl)) ?_ ?_
  · exact ⟨tv, ⟨⟨fun s w => mq, (show Region.noSelect _ = true by kernel_rfl), ⟨⟨tv, tv⟩, tv⟩⟩, ⟨fun s w => mq, (show Region.noSelect _ = true by kernel_rfl), ⟨⟨tv, (fun k1 => ⟨fun s w => mq, ⟨tv, ⟨⟨tv, tv⟩, ⟨⟨tv, tv⟩, tv⟩⟩⟩⟩)⟩, ⟨⟨tv, (fun k2 => ⟨fun s w => mq, ⟨tv, ⟨⟨tv, tv⟩, ⟨⟨tv, ⟨fun s w => mq, (show Region.noSelect _ = true by kernel_rfl), ⟨⟨tv, tv⟩, tv⟩⟩⟩, tv⟩⟩⟩⟩)⟩, ⟨tv, tv⟩⟩⟩⟩⟩⟩
  · exact Eq.mp (show mC_fits.M R v0 v1 w = _ by kernel_rfl) h
noncomputable def mC_Fill.body : Code := (Tryz.f30.body).getD .skip
def mC_Fill.b2 (R : EPq) (k2 : ((Option Addr) × Sl × Addr × Addr × Sl × Sl × Sl × Int × Int × Unit) → WPq) (v0 : (Option Addr)) (v2 : Sl) (v5 : Addr) (v7 : Addr) (v11 : Sl) (v14 : Sl) (t60 : Sl) (t61 : Int) (t62 : Int) (w : World) : Prop :=
  Cd (decide (t62 < t61)) (Pu Tryz.prog (Instr.indexAt 25 (.slice t60.base t60.len t60.cap) (.int .i64 t62)) (.one (.at .addr)) (fun (x34 : Addr) w35 =>
  Rd Tryz.prog (Instr.loadAt 3 (.pointer (some x34))) (.one (.at (.int .i64))) (fun (x36 : Int) w37 =>
  Pu Tryz.prog (Instr.indexAt 30 (.slice v2.base v2.len v2.cap) (.int .i64 x36)) (.one (.at .addr)) (fun (x38 : Addr) w39 =>
  Rd Tryz.prog (Instr.loadAt 24 (.pointer (some x38))) (.one (.at .sl)) (fun (x40 : Sl) w41 =>
  Pu Tryz.prog (Instr.indexAt 30 (.slice v14.base v14.len v14.cap) (.int .i64 t62)) (.one (.at .addr)) (fun (x42 : Addr) w43 =>
  Wu Tryz.prog (Instr.storeAt 24 (.pointer (some x42)) (.slice x40.base x40.len x40.cap)) (fun w44 =>
  k2 (v0, v2, v5, v7, v11, v14, t60, t61, (IntKind.wrap .i64 (t62 + 1)), ()) w44) w43) w41) w39) w37) w35) w) (Held w.drew (fun S45 => Pu Tryz.prog (nilCk v0) (.one (.at .addr)) (fun (x46 : Addr) w47 =>
  RdS Tryz.prog S45 (Instr.loadAt 75 (.pointer (some (Addr.add x46 3)))) (.one (.at .ptr)) (fun (x48 : (Option Addr)) w49 =>
  RdS Tryz.prog S45 (Instr.loadAt 30 (.pointer (some (Addr.add v5 2)))) (.one (.at .sl)) (fun (x50 : Sl) w51 =>
  RdS Tryz.prog S45 (Instr.loadAt 41 (.pointer (some v7))) (.one (.agg [.int .i64, .int .i64])) (fun x52 w53 =>
  Cl Tryz.prog 45 #[(.pointer x48), (.slice x50.base x50.len x50.cap), (.slice v11.base v11.len v11.cap), (.slice v14.base v14.len v14.cap), (.agg #[(.int .i64 x52.1), (.int .i64 x52.2.1)])] (.one (.at (.int .i64))) (fun (x54 : Int) w55 =>
  S45 w55 ∧ (R (.returned (.int .i64 x54)) w55)) w53) w51) w49) w47) w.drew))
def mC_Fill.l2 (R : EPq) : ((Option Addr) × Sl × Addr × Addr × Sl × Sl × Sl × Int × Int × Unit) → World → Prop := loopW (fun k2 s w => mC_Fill.b2 R k2 s.1 s.2.1 s.2.2.1 s.2.2.2.1 s.2.2.2.2.1 s.2.2.2.2.2.1 s.2.2.2.2.2.2.1 s.2.2.2.2.2.2.2.1 s.2.2.2.2.2.2.2.2.1 w)
def mC_Fill.b1 (R : EPq) (k1 : ((Option Addr) × Sl × Addr × Addr × Sl × Sl × Int × Int × Unit) → WPq) (v0 : (Option Addr)) (v2 : Sl) (v5 : Addr) (v7 : Addr) (v11 : Sl) (t40 : Sl) (t41 : Int) (t42 : Int) (w : World) : Prop :=
  Cd (decide (t42 < t41)) (Pu Tryz.prog (Instr.indexAt 25 (.slice t40.base t40.len t40.cap) (.int .i64 t42)) (.one (.at .addr)) (fun (x17 : Addr) w18 =>
  Rd Tryz.prog (Instr.loadAt 3 (.pointer (some x17))) (.one (.at (.int .i64))) (fun (x19 : Int) w20 =>
  Pu Tryz.prog (Instr.indexAt 30 (.slice v2.base v2.len v2.cap) (.int .i64 x19)) (.one (.at .addr)) (fun (x21 : Addr) w22 =>
  Rd Tryz.prog (Instr.loadAt 24 (.pointer (some x21))) (.one (.at .sl)) (fun (x23 : Sl) w24 =>
  Pu Tryz.prog (Instr.indexAt 30 (.slice v11.base v11.len v11.cap) (.int .i64 t42)) (.one (.at .addr)) (fun (x25 : Addr) w26 =>
  Wu Tryz.prog (Instr.storeAt 24 (.pointer (some x25)) (.slice x23.base x23.len x23.cap)) (fun w27 =>
  k1 (v0, v2, v5, v7, v11, t40, t41, (IntKind.wrap .i64 (t42 + 1)), ()) w27) w26) w24) w22) w20) w18) w) (Rd Tryz.prog (Instr.loadAt 25 (.pointer (some v5))) (.one (.at .sl)) (fun (x28 : Sl) w29 =>
  Wr Tryz.prog (Instr.makeSlice 30 (.int .i64 ((x28.len : Nat) : Int)) (.int .i64 ((x28.len : Nat) : Int))) (.one (.at .sl)) (fun (x30 : Sl) w31 =>
  Rd Tryz.prog (Instr.loadAt 25 (.pointer (some v5))) (.one (.at .sl)) (fun (x32 : Sl) w33 =>
  mC_Fill.l2 R (v0, v2, v5, v7, v11, x30, x32, ((x32.len : Nat) : Int), 0, ()) w33) w31) w29) w)
def mC_Fill.l1 (R : EPq) : ((Option Addr) × Sl × Addr × Addr × Sl × Sl × Int × Int × Unit) → World → Prop := loopW (fun k1 s w => mC_Fill.b1 R k1 s.1 s.2.1 s.2.2.1 s.2.2.2.1 s.2.2.2.2.1 s.2.2.2.2.2.1 s.2.2.2.2.2.2.1 s.2.2.2.2.2.2.2.1 w)
def mC_Fill.j1 (R : EPq)  (v0 : (Option Addr)) (v2 : Sl) (v5 : Addr) (v7 : Addr) (v10 : Int) (w : World) : Prop :=
  Cd (v10 != 0) (R (.returned (.int .i64 v10)) w) (Rd Tryz.prog (Instr.loadAt 49 (.pointer (some v5))) (.one (.agg [.sl, .sl, .sl, .sl])) (fun x7 w8 =>
  Cl Tryz.prog 48 #[(.pointer v0), (.agg #[(.slice x7.1.base x7.1.len x7.1.cap), (.slice x7.2.1.base x7.2.1.len x7.2.1.cap), (.slice x7.2.2.1.base x7.2.2.1.len x7.2.2.1.cap), (.slice x7.2.2.2.1.base x7.2.2.2.1.len x7.2.2.2.1.cap)])] (.one (.at .bool)) (fun (x9 : Bool) w10 =>
  Cd (!x9) (R (.returned (.int .i64 170)) w10) (Rd Tryz.prog (Instr.loadAt 25 (.pointer (some (Addr.add v5 1)))) (.one (.at .sl)) (fun (x11 : Sl) w12 =>
  Wr Tryz.prog (Instr.makeSlice 30 (.int .i64 ((x11.len : Nat) : Int)) (.int .i64 ((x11.len : Nat) : Int))) (.one (.at .sl)) (fun (x13 : Sl) w14 =>
  Rd Tryz.prog (Instr.loadAt 25 (.pointer (some (Addr.add v5 1)))) (.one (.at .sl)) (fun (x15 : Sl) w16 =>
  mC_Fill.l1 R (v0, v2, v5, v7, x13, x15, ((x15.len : Nat) : Int), 0, ()) w16) w14) w12) w10)) w8) w)
def mC_Fill.M (R : EPq) (v0 : (Option Addr)) (v1 : (Sl × Sl × Sl × Sl × Unit)) (v2 : Sl) (v3 : (Int × Int × Unit)) (w : World) : Prop :=
  Wr Tryz.prog (Instr.box 49 (.agg #[(.slice v1.1.base v1.1.len v1.1.cap), (.slice v1.2.1.base v1.2.1.len v1.2.1.cap), (.slice v1.2.2.1.base v1.2.2.1.len v1.2.2.1.cap), (.slice v1.2.2.2.1.base v1.2.2.2.1.len v1.2.2.2.1.cap)])) (.one (.at .addr)) (fun (x1 : Addr) w2 =>
  Wr Tryz.prog (Instr.box 41 (.agg #[(.int .i64 v3.1), (.int .i64 v3.2.1)])) (.one (.at .addr)) (fun (x3 : Addr) w4 =>
  Cl Tryz.prog 34 #[(.pointer v0), (.slice v2.base v2.len v2.cap)] (.tup [.at (.int .i64), .at (.int .i64)]) (fun x5 w6 =>
  Cd (x5.2.1 == 0) (Rd Tryz.prog (Instr.loadAt 41 (.pointer (some x3))) (.one (.agg [.int .i64, .int .i64])) (fun x56 w57 =>
  Cl Tryz.prog 35 #[(.agg #[(.int .i64 x56.1), (.int .i64 x56.2.1)]), (.int .i64 x5.1)] (.one (.at (.int .i64))) (fun (x58 : Int) w59 =>
  mC_Fill.j1 R v0 v2 x1 x3 x58 w59) w57) w6) (mC_Fill.j1 R v0 v2 x1 x3 x5.2.1 w6)) w4) w2) w
noncomputable def mC_Fill.ann (R : EPq) : Ann :=
  .seq (.reg (.op 0 (.wr (.one (.at .addr))) (.op 1 (.wr (.one (.at .addr))) (.op 2 .now (.done))))) (.seq (.reg (.op 0 .now (.op 1 .now (.op 2 (.cl (.tup [.at (.int .i64), .at (.int .i64)])) (.op 3 .now (.op 4 .now (.op 5 .now (.op 6 .now (.op 7 .now (.done)))))))))) (.join [(0, qcP), (2, qcS), (5, .at .addr), (7, .at .addr), (10, qcI)] (fun s w => mC_Fill.j1 R s.1 s.2.1 s.2.2.1 s.2.2.2.1 s.2.2.2.2.1 w) (.seq (.reg qN2) (.cond (.reg (.op 0 (.rd (.one (.agg [.int .i64, .int .i64]))) (.op 1 .now (.op 2 (.cl (.one qcI)) (.op 3 .now (.done)))))) (.leaf))) (.seq (.seq (.reg qN2) (.cond (.seq (.reg qN2) (.leaf)) (.leaf))) (.seq (.seq (.reg (.op 0 .now (.op 1 (.rd (.one (.agg [.sl, .sl, .sl, .sl]))) (.op 2 (.cl (.one (.at .bool))) (.op 3 .now (.done)))))) (.cond (.seq (.reg qN1) (.leaf)) (.leaf))) (.seq (.reg (.op 0 .now (.op 1 qrS (.op 2 .now (.op 3 (.wr (.one qcS)) (.op 4 .now (.done))))))) (.seq (.seq (.reg (.op 0 .now (.op 1 qrS (.op 2 .now (.op 3 .now (.done)))))) (.block (.loop [(0, qcP), (2, qcS), (5, .at .addr), (7, .at .addr), (11, qcS), (40, qcS), (41, qcI), (42, qcI)] (fun k1 s w => mC_Fill.b1 R k1 s.1 s.2.1 s.2.2.1 s.2.2.2.1 s.2.2.2.2.1 s.2.2.2.2.2.1 s.2.2.2.2.2.2.1 s.2.2.2.2.2.2.2.1 w) (fun k1 => .seq (.reg qN1) (.seq (.cond (.leaf) (.leaf)) (.seq (.block (.seq (.reg (.op 0 .now (.op 1 qpA (.op 2 (.rd (.one qcI)) (.op 3 .now (.op 4 .now (.done))))))) (.reg (.op 0 .now (.op 1 .now (.op 2 .now (.op 3 .now (.op 4 qpA (.op 5 qrS (.op 6 qpA (.op 7 .wu (.done)))))))))))) (.reg qN2))))))) (.seq (.reg (.op 0 .now (.op 1 qrS (.op 2 .now (.op 3 (.wr (.one qcS)) (.op 4 .now (.done))))))) (.seq (.seq (.reg (.op 0 .now (.op 1 qrS (.op 2 .now (.op 3 .now (.done)))))) (.block (.loop [(0, qcP), (2, qcS), (5, .at .addr), (7, .at .addr), (11, qcS), (14, qcS), (60, qcS), (61, qcI), (62, qcI)] (fun k2 s w => mC_Fill.b2 R k2 s.1 s.2.1 s.2.2.1 s.2.2.2.1 s.2.2.2.2.1 s.2.2.2.2.2.1 s.2.2.2.2.2.2.1 s.2.2.2.2.2.2.2.1 s.2.2.2.2.2.2.2.2.1 w) (fun k2 => .seq (.reg qN1) (.seq (.cond (.leaf) (.leaf)) (.seq (.block (.seq (.reg (.op 0 .now (.op 1 qpA (.op 2 (.rd (.one qcI)) (.op 3 .now (.op 4 .now (.done))))))) (.reg (.op 0 .now (.op 1 .now (.op 2 .now (.op 3 .now (.op 4 qpA (.op 5 qrS (.op 6 qpA (.op 7 .wu (.done)))))))))))) (.reg qN2))))))) (.seq (.regD (.op 0 .now (.op 1 qpA (.op 2 .now (.op 3 (.rd (.one qcP)) (.op 4 .now (.op 5 qrS (.op 6 .now (.op 7 .now (.op 8 (.rd (.one (.agg [.int .i64, .int .i64]))) (.op 9 (.cl (.one qcI)) (.op 10 .now (.done))))))))))))) (.leaf))))))))))
theorem mC_Fill.run (R : EPq) (v0 : (Option Addr)) (v1 : (Sl × Sl × Sl × Sl × Unit)) (v2 : Sl) (v3 : (Int × Int × Unit)) (w : World) (h : mC_Fill.M R v0 v1 v2 v3 w) : Calls Tryz.prog 30 #[(.pointer v0), (.agg #[(.slice v1.1.base v1.1.len v1.1.cap), (.slice v1.2.1.base v1.2.1.len v1.2.1.cap), (.slice v1.2.2.1.base v1.2.2.1.len v1.2.2.1.cap), (.slice v1.2.2.2.1.base v1.2.2.2.1.len v1.2.2.2.1.cap)]), (.slice v2.base v2.len v2.cap), (.agg #[(.int .i64 v3.1), (.int .i64 v3.2.1)])] w R := by
  refine calls_of_lift mix_eqg Tryz.func30 (c := mC_Fill.body) (by kernel_rfl) [.at (.int .i64)] (mC_Fill.ann R) 85 Tryz.ntmps30 [.tmp 8] (by kernel_rfl) (Nat.le_of_ble_eq_true (by kernel_rfl)) ?_ ?_
  · exact ⟨tv, ⟨tv, ⟨fun s w => mq, ⟨tv, ⟨tv, tv⟩⟩, ⟨⟨tv, ⟨⟨tv, tv⟩, tv⟩⟩, ⟨⟨tv, ⟨⟨tv, tv⟩, tv⟩⟩, ⟨tv, ⟨⟨tv, (fun k1 => ⟨fun s w => mq, ⟨tv, ⟨⟨tv, tv⟩, ⟨⟨tv, tv⟩, tv⟩⟩⟩⟩)⟩, ⟨tv, ⟨⟨tv, (fun k2 => ⟨fun s w => mq, ⟨tv, ⟨⟨tv, tv⟩, ⟨⟨tv, tv⟩, tv⟩⟩⟩⟩)⟩, ⟨(show Region.noSelect _ = true by kernel_rfl), tv⟩⟩⟩⟩⟩⟩⟩⟩⟩⟩
  · exact Eq.mp (show mC_Fill.M R v0 v1 v2 v3 w = _ by kernel_rfl) h
noncomputable def q17McodeSpans.body : Code := (Tryz.f8.body).getD .skip
def q17McodeSpans.j4 (R : EPq)  (k1 : (Int × (Option Addr) × Int × Int × Sl × Int × Addr × Addr × Sl × Sl × Sl × Int × Unit) → WPq) (v3 : Int) (v9 : (Option Addr)) (v10 : Int) (v11 : Int) (v12 : Sl) (v13 : Int) (v14 : Addr) (v15 : Addr) (v16 : Sl) (v20 : Sl) (v21 : Sl) (v22 : Int) (w : World) : Prop :=
  k1 (v3, v9, v10, v11, v12, v13, v14, v15, v16, v20, v21, (IntKind.wrap .i64 (v22 + 1)), ()) w
def q17McodeSpans.b3 (R : EPq) (k2 : (Int × (Option Addr) × Sl × Int × Addr × Addr × Sl × Sl × Addr × Int × Unit) → WPq) (k3 : (Int × (Option Addr) × Sl × Int × Addr × Addr × Sl × Sl × Addr × Int × Int × Unit) → WPq) (v3 : Int) (v9 : (Option Addr)) (v12 : Sl) (v13 : Int) (v14 : Addr) (v15 : Addr) (v16 : Sl) (v21 : Sl) (v23 : Addr) (v25 : Int) (v26 : Int) (w : World) : Prop :=
  Cd (decide (v26 < v13)) (Pu Tryz.prog (Instr.indexAt 25 (.slice v21.base v21.len v21.cap) (.int .i64 v25)) (.one (.at .addr)) (fun (x62 : Addr) w63 =>
  Rd Tryz.prog (Instr.loadAt 3 (.pointer (some x62))) (.one (.at (.int .i64))) (fun (x64 : Int) w65 =>
  Pu Tryz.prog (Instr.indexAt 30 (.slice v16.base v16.len v16.cap) (.int .i64 x64)) (.one (.at .addr)) (fun (x66 : Addr) w67 =>
  Rd Tryz.prog (Instr.loadAt 24 (.pointer (some x66))) (.one (.at .sl)) (fun (x68 : Sl) w69 =>
  Pu Tryz.prog (Instr.indexAt 24 (.slice x68.base x68.len x68.cap) (.int .i64 v26)) (.one (.at .addr)) (fun (x70 : Addr) w71 =>
  Rd Tryz.prog (Instr.loadAt 5 (.pointer (some x70))) (.one (.at (.int .u8))) (fun (x72 : Int) w73 =>
  Cd (x72 != 0) (R (.returned (.bool false)) w73) (k3 (v3, v9, v12, v13, v14, v15, v16, v21, v23, v25, (IntKind.wrap .i64 (v26 + 1)), ()) w73)) w71) w69) w67) w65) w63) w) (k2 (v3, v9, v12, v13, v14, v15, v16, v21, v23, (IntKind.wrap .i64 (v25 + 1)), ()) w)
def q17McodeSpans.l3 (R : EPq) (k2 : (Int × (Option Addr) × Sl × Int × Addr × Addr × Sl × Sl × Addr × Int × Unit) → WPq) : (Int × (Option Addr) × Sl × Int × Addr × Addr × Sl × Sl × Addr × Int × Int × Unit) → World → Prop := loopW (fun k3 s w => q17McodeSpans.b3 R k2 k3 s.1 s.2.1 s.2.2.1 s.2.2.2.1 s.2.2.2.2.1 s.2.2.2.2.2.1 s.2.2.2.2.2.2.1 s.2.2.2.2.2.2.2.1 s.2.2.2.2.2.2.2.2.1 s.2.2.2.2.2.2.2.2.2.1 s.2.2.2.2.2.2.2.2.2.2.1 w)
def q17McodeSpans.j6 (R : EPq)  (v3 : Int) (v9 : (Option Addr)) (v12 : Sl) (v14 : Addr) (v15 : Addr) (v16 : Sl) (t219 : Bool) (w : World) : Prop :=
  Cd t219 (R (.returned (.bool false)) w) (Pu Tryz.prog (Instr.indexAt 30 (.slice v12.base v12.len v12.cap) (.int .i64 0)) (.one (.at .addr)) (fun (x74 : Addr) w75 =>
  Rd Tryz.prog (Instr.loadAt 24 (.pointer (some x74))) (.one (.at .sl)) (fun (x76 : Sl) w77 =>
  Pu Tryz.prog (Instr.indexAt 24 (.slice x76.base x76.len x76.cap) (.int .i64 0)) (.one (.at .addr)) (fun (x78 : Addr) w79 =>
  Rd Tryz.prog (Instr.loadAt 5 (.pointer (some x78))) (.one (.at (.int .u8))) (fun (x80 : Int) w81 =>
  Pu Tryz.prog (Instr.indexAt 24 (.slice x76.base x76.len x76.cap) (.int .i64 0)) (.one (.at .addr)) (fun (x82 : Addr) w83 =>
  Wu Tryz.prog (Instr.storeAt 5 (.pointer (some x82)) (.int .u8 (bXor .u8 x80 1))) (fun w84 =>
  Rd Tryz.prog (Instr.loadAt 41 (.pointer (some v14))) (.one (.agg [.int .i64, .int .i64])) (fun x85 w86 =>
  Cl Tryz.prog 17 #[(.pointer v9), (.slice v12.base v12.len v12.cap), (.agg #[(.int .i64 x85.1), (.int .i64 x85.2.1)])] (.tup [.at .bool, .at (.int .i64)]) (fun x87 w88 =>
  Rd Tryz.prog (Instr.loadAt 41 (.pointer (some v15))) (.one (.agg [.int .i64, .int .i64])) (fun x89 w90 =>
  Cl Tryz.prog 17 #[(.pointer v9), (.slice v12.base v12.len v12.cap), (.agg #[(.int .i64 x89.1), (.int .i64 x89.2.1)])] (.tup [.at .bool, .at (.int .i64)]) (fun x91 w92 =>
  Cl Tryz.prog 14 #[(.pointer v9), (.slice v12.base v12.len v12.cap)] (.tup [.at .bool, .at (.int .i64)]) (fun x93 w94 =>
  Held w94.drew (fun S95 => Cd (x87.2.1 == 0) (Cd (x91.2.1 == 0) (Cd (x93.2.1 == 0) (Cd (!x93.1) (Cd (x87.1 == (v3 == 0)) (Cd (x91.1 == (decide (v3 > 0))) (Pu Tryz.prog (Instr.sliceAt 30 (.slice v12.base v12.len v12.cap) (some (.int .i64 1)) none none) (.one (.at .sl)) (fun (x96 : Sl) w97 =>
  Pu Tryz.prog (Instr.sliceAt 30 (.slice v16.base v16.len v16.cap) (some (.int .i64 1)) none none) (.one (.at .sl)) (fun (x98 : Sl) w99 =>
  Cl Tryz.prog 20 #[(.slice x96.base x96.len x96.cap), (.slice x98.base x98.len x98.cap)] (.one (.at .bool)) (fun (x100 : Bool) w101 =>
  S95 w101 ∧ (R (.returned (.bool x100)) w101)) w99) w97) w94.drew) (R (.returned (.bool false)) w94.drew)) (R (.returned (.bool false)) w94.drew)) (R (.returned (.bool false)) w94.drew)) (R (.returned (.bool false)) w94.drew)) (R (.returned (.bool false)) w94.drew)) (R (.returned (.bool false)) w94.drew))) w92) w90) w88) w86) w84) w83) w81) w79) w77) w75) w)
def q17McodeSpans.b2 (R : EPq) (k2 : (Int × (Option Addr) × Sl × Int × Addr × Addr × Sl × Sl × Addr × Int × Unit) → WPq) (v3 : Int) (v9 : (Option Addr)) (v12 : Sl) (v13 : Int) (v14 : Addr) (v15 : Addr) (v16 : Sl) (v21 : Sl) (v23 : Addr) (v25 : Int) (w : World) : Prop :=
  Cd (decide (v25 < ((v21.len : Nat) : Int))) (q17McodeSpans.l3 R k2 (v3, v9, v12, v13, v14, v15, v16, v21, v23, v25, v3, ()) w) (Rd Tryz.prog (Instr.loadAt 49 (.pointer (some v23))) (.one (.agg [.sl, .sl, .sl, .sl])) (fun x102 w103 =>
  Rd Tryz.prog (Instr.loadAt 41 (.pointer (some v15))) (.one (.agg [.int .i64, .int .i64])) (fun x104 w105 =>
  Cl Tryz.prog 30 #[(.pointer v9), (.agg #[(.slice x102.1.base x102.1.len x102.1.cap), (.slice x102.2.1.base x102.2.1.len x102.2.1.cap), (.slice x102.2.2.1.base x102.2.2.1.len x102.2.2.1.cap), (.slice x102.2.2.2.1.base x102.2.2.2.1.len x102.2.2.2.1.cap)]), (.slice v16.base v16.len v16.cap), (.agg #[(.int .i64 x104.1), (.int .i64 x104.2.1)])] (.one (.at (.int .i64))) (fun (x106 : Int) w107 =>
  Cd (x106 != 0) (q17McodeSpans.j6 R v3 v9 v12 v14 v15 v16 true w107) (Cl Tryz.prog 20 #[(.slice v16.base v16.len v16.cap), (.slice v12.base v12.len v12.cap)] (.one (.at .bool)) (fun (x108 : Bool) w109 =>
  Cd (!x108) (q17McodeSpans.j6 R v3 v9 v12 v14 v15 v16 true w109) (Rd Tryz.prog (Instr.loadAt 49 (.pointer (some v23))) (.one (.agg [.sl, .sl, .sl, .sl])) (fun x110 w111 =>
  Cl Tryz.prog 30 #[(.pointer v9), (.agg #[(.slice x110.1.base x110.1.len x110.1.cap), (.slice x110.2.1.base x110.2.1.len x110.2.1.cap), (.slice x110.2.2.1.base x110.2.2.1.len x110.2.2.1.cap), (.slice x110.2.2.2.1.base x110.2.2.2.1.len x110.2.2.2.1.cap)]), (.slice v16.base v16.len v16.cap), (.agg #[(.int .i64 v3), (.int .i64 (IntKind.wrap .i64 (v13 + 1)))])] (.one (.at (.int .i64))) (fun (x112 : Int) w113 =>
  q17McodeSpans.j6 R v3 v9 v12 v14 v15 v16 (x112 != 7) w113) w111) w109)) w107)) w105) w103) w)
def q17McodeSpans.l2 (R : EPq) : (Int × (Option Addr) × Sl × Int × Addr × Addr × Sl × Sl × Addr × Int × Unit) → World → Prop := loopW (fun k2 s w => q17McodeSpans.b2 R k2 s.1 s.2.1 s.2.2.1 s.2.2.2.1 s.2.2.2.2.1 s.2.2.2.2.2.1 s.2.2.2.2.2.2.1 s.2.2.2.2.2.2.2.1 s.2.2.2.2.2.2.2.2.1 s.2.2.2.2.2.2.2.2.2.1 w)
def q17McodeSpans.j5 (R : EPq)  (v3 : Int) (v9 : (Option Addr)) (v12 : Sl) (v13 : Int) (v14 : Addr) (v15 : Addr) (v16 : Sl) (v21 : Sl) (v23 : Addr) (t173 : Bool) (w : World) : Prop :=
  Cd t173 (R (.returned (.bool false)) w) (q17McodeSpans.l2 R (v3, v9, v12, v13, v14, v15, v16, v21, v23, 0, ()) w)
def q17McodeSpans.b1 (R : EPq) (k1 : (Int × (Option Addr) × Int × Int × Sl × Int × Addr × Addr × Sl × Sl × Sl × Int × Unit) → WPq) (v3 : Int) (v9 : (Option Addr)) (v10 : Int) (v11 : Int) (v12 : Sl) (v13 : Int) (v14 : Addr) (v15 : Addr) (v16 : Sl) (v20 : Sl) (v21 : Sl) (v22 : Int) (w : World) : Prop :=
  Cd (decide (v22 < (IntKind.wrap .i64 (v10 + v11)))) (Pu Tryz.prog (Instr.indexAt 36 (.slice v20.base v20.len v20.cap) (.int .i64 v22)) (.one (.at .addr)) (fun (x44 : Addr) w45 =>
  Rd Tryz.prog (Instr.loadAt 4 (.pointer (some x44))) (.one (.at .bool)) (fun (x46 : Bool) w47 =>
  Cd x46 (Wr Tryz.prog (Instr.buildSlice 25 1 #[(0, (.int .i64 v22))]) (.one (.at .sl)) (fun (x48 : Sl) w49 =>
  Wr Tryz.prog (Builtin.append_ #[25, 25] 25 #[(.slice v21.base v21.len v21.cap), (.slice x48.base x48.len x48.cap)]) (.one (.at .sl)) (fun (x50 : Sl) w51 =>
  Wr Tryz.prog (Instr.makeSlice 24 (.int .i64 v13) (.int .i64 v13)) (.one (.at .sl)) (fun (x52 : Sl) w53 =>
  Pu Tryz.prog (Instr.indexAt 30 (.slice v16.base v16.len v16.cap) (.int .i64 v22)) (.one (.at .addr)) (fun (x54 : Addr) w55 =>
  Wu Tryz.prog (Instr.storeAt 24 (.pointer (some x54)) (.slice x52.base x52.len x52.cap)) (fun w56 =>
  q17McodeSpans.j4 R k1 v3 v9 v10 v11 v12 v13 v14 v15 v16 v20 x50 v22 w56) w55) w53) w51) w49) w47) (q17McodeSpans.j4 R k1 v3 v9 v10 v11 v12 v13 v14 v15 v16 v20 v21 v22 w47)) w45) w) (Cl Tryz.prog 22 #[(.pointer v9), (.slice v21.base v21.len v21.cap)] (.tup [.agg [.sl, .sl, .sl, .sl], .at (.int .i64)]) (fun x57 w58 =>
  Wr Tryz.prog (Instr.alloc 49 true (.tuple #[])) (.one (.at .addr)) (fun (x59 : Addr) w60 =>
  Wu Tryz.prog (Instr.storeAt 49 (.pointer (some x59)) (.agg #[(.slice x57.1.1.base x57.1.1.len x57.1.1.cap), (.slice x57.1.2.1.base x57.1.2.1.len x57.1.2.1.cap), (.slice x57.1.2.2.1.base x57.1.2.2.1.len x57.1.2.2.1.cap), (.slice x57.1.2.2.2.1.base x57.1.2.2.2.1.len x57.1.2.2.2.1.cap)])) (fun w61 =>
  Cd (x57.2.1 != 0) (q17McodeSpans.j5 R v3 v9 v12 v13 v14 v15 v16 v21 x59 true w61) (Rd Tryz.prog (Instr.loadAt 49 (.pointer (some x59))) (.one (.agg [.sl, .sl, .sl, .sl])) (fun x114 w115 =>
  Rd Tryz.prog (Instr.loadAt 41 (.pointer (some v14))) (.one (.agg [.int .i64, .int .i64])) (fun x116 w117 =>
  Cl Tryz.prog 30 #[(.pointer v9), (.agg #[(.slice x114.1.base x114.1.len x114.1.cap), (.slice x114.2.1.base x114.2.1.len x114.2.1.cap), (.slice x114.2.2.1.base x114.2.2.1.len x114.2.2.1.cap), (.slice x114.2.2.2.1.base x114.2.2.2.1.len x114.2.2.2.1.cap)]), (.slice v16.base v16.len v16.cap), (.agg #[(.int .i64 x116.1), (.int .i64 x116.2.1)])] (.one (.at (.int .i64))) (fun (x118 : Int) w119 =>
  q17McodeSpans.j5 R v3 v9 v12 v13 v14 v15 v16 v21 x59 (x118 != 0) w119) w117) w115) w61)) w60) w58) w)
def q17McodeSpans.l1 (R : EPq) : (Int × (Option Addr) × Int × Int × Sl × Int × Addr × Addr × Sl × Sl × Sl × Int × Unit) → World → Prop := loopW (fun k1 s w => q17McodeSpans.b1 R k1 s.1 s.2.1 s.2.2.1 s.2.2.2.1 s.2.2.2.2.1 s.2.2.2.2.2.1 s.2.2.2.2.2.2.1 s.2.2.2.2.2.2.2.1 s.2.2.2.2.2.2.2.2.1 s.2.2.2.2.2.2.2.2.2.1 s.2.2.2.2.2.2.2.2.2.2.1 s.2.2.2.2.2.2.2.2.2.2.2.1 w)
def q17McodeSpans.j3 (R : EPq)  (v2 : Sl) (v3 : Int) (v9 : (Option Addr)) (v10 : Int) (v11 : Int) (v12 : Sl) (v13 : Int) (v14 : Addr) (v15 : Addr) (v16 : Sl) (t128 : Bool) (w : World) : Prop :=
  Cd t128 (R (.returned (.bool false)) w) (Cl Tryz.prog 16 #[(.int .i64 ((v2.len : Nat) : Int)), (.int .i64 1), (.int .i64 v11)] (.one (.at (.int .i64))) (fun (x40 : Int) w41 =>
  Cl Tryz.prog 15 #[(.int .i64 (IntKind.wrap .i64 (v10 + v11))), (.int .i64 x40), (.slice v2.base v2.len v2.cap)] (.one (.at .sl)) (fun (x42 : Sl) w43 =>
  q17McodeSpans.l1 R (v3, v9, v10, v11, v12, v13, v14, v15, v16, x42, ⟨none, 0, 0⟩, 0, ()) w43) w41) w)
def q17McodeSpans.j2 (R : EPq)  (v2 : Sl) (v3 : Int) (v9 : (Option Addr)) (v10 : Int) (v11 : Int) (v12 : Sl) (v13 : Int) (v14 : Addr) (v15 : Addr) (v16 : Sl) (v17 : Sl) (v18 : Sl) (v19 : Sl) (t101 : Bool) (w : World) : Prop :=
  Cd t101 (R (.returned (.bool false)) w) (Cl Tryz.prog 19 #[(.pointer v9), (.slice v18.base v18.len v18.cap), (.slice v17.base v17.len v17.cap)] (.one (.at (.int .i64))) (fun (x120 : Int) w121 =>
  Cd (x120 != 0) (q17McodeSpans.j3 R v2 v3 v9 v10 v11 v12 v13 v14 v15 v16 true w121) (Rd Tryz.prog (Instr.loadAt 41 (.pointer (some v14))) (.one (.agg [.int .i64, .int .i64])) (fun x122 w123 =>
  Cl Tryz.prog 29 #[(.pointer v9), (.slice v19.base v19.len v19.cap), (.slice v17.base v17.len v17.cap), (.agg #[(.int .i64 x122.1), (.int .i64 x122.2.1)])] (.one (.at (.int .i64))) (fun (x124 : Int) w125 =>
  Cd (x124 != 0) (q17McodeSpans.j3 R v2 v3 v9 v10 v11 v12 v13 v14 v15 v16 true w125) (Rd Tryz.prog (Instr.loadAt 41 (.pointer (some v15))) (.one (.agg [.int .i64, .int .i64])) (fun x126 w127 =>
  Cl Tryz.prog 29 #[(.pointer v9), (.slice v19.base v19.len v19.cap), (.slice v17.base v17.len v17.cap), (.agg #[(.int .i64 x126.1), (.int .i64 x126.2.1)])] (.one (.at (.int .i64))) (fun (x128 : Int) w129 =>
  Cd (x128 != 0) (q17McodeSpans.j3 R v2 v3 v9 v10 v11 v12 v13 v14 v15 v16 true w129) (Cl Tryz.prog 20 #[(.slice v18.base v18.len v18.cap), (.slice v19.base v19.len v19.cap)] (.one (.at .bool)) (fun (x130 : Bool) w131 =>
  q17McodeSpans.j3 R v2 v3 v9 v10 v11 v12 v13 v14 v15 v16 (!x130) w131) w129)) w127) w125)) w123) w121)) w)
def q17McodeSpans.j1 (R : EPq)  (v1 : Sl) (v2 : Sl) (v3 : Int) (v9 : (Option Addr)) (v10 : Int) (v11 : Int) (t43 : Bool) (w : World) : Prop :=
  Cd t43 (R (.returned (.bool false)) w) (Cl Tryz.prog 12 #[(.slice v1.base v1.len v1.cap), (.int .i64 v10), (.int .i64 v11), (.int .i64 60)] (.one (.at .sl)) (fun (x7 : Sl) w8 =>
  Pu Tryz.prog (Instr.indexAt 30 (.slice x7.base x7.len x7.cap) (.int .i64 0)) (.one (.at .addr)) (fun (x9 : Addr) w10 =>
  Rd Tryz.prog (Instr.loadAt 24 (.pointer (some x9))) (.one (.at .sl)) (fun (x11 : Sl) w12 =>
  Cl Tryz.prog 16 #[(.int .i64 v3), (.int .i64 0), (.int .i64 ((x11.len : Nat) : Int))] (.one (.at (.int .i64))) (fun (x13 : Int) w14 =>
  Wr Tryz.prog (Instr.alloc 41 true (.tuple #[])) (.one (.at .addr)) (fun (x15 : Addr) w16 =>
  Wu Tryz.prog (Instr.storeAt 41 (.pointer (some x15)) (.agg #[(.int .i64 0), (.int .i64 x13)])) (fun w17 =>
  Wr Tryz.prog (Instr.alloc 41 true (.tuple #[])) (.one (.at .addr)) (fun (x18 : Addr) w19 =>
  Wu Tryz.prog (Instr.storeAt 41 (.pointer (some x18)) (.agg #[(.int .i64 x13), (.int .i64 ((x11.len : Nat) : Int))])) (fun w20 =>
  Cl Tryz.prog 18 #[(.slice x7.base x7.len x7.cap)] (.one (.at .sl)) (fun (x21 : Sl) w22 =>
  Wr Tryz.prog (Instr.makeSlice 30 (.int .i64 v10) (.int .i64 v10)) (.one (.at .sl)) (fun (x23 : Sl) w24 =>
  Wr Tryz.prog (Instr.buildSlice 24 0 #[]) (.one (.at .sl)) (fun (x25 : Sl) w26 =>
  Pu Tryz.prog (Instr.indexAt 30 (.slice x7.base x7.len x7.cap) (.int .i64 v10)) (.one (.at .addr)) (fun (x27 : Addr) w28 =>
  Rd Tryz.prog (Instr.loadAt 24 (.pointer (some x27))) (.one (.at .sl)) (fun (x29 : Sl) w30 =>
  Wr Tryz.prog (Builtin.append_ #[24, 24] 24 #[(.slice x25.base x25.len x25.cap), (.slice x29.base x29.len x29.cap)]) (.one (.at .sl)) (fun (x31 : Sl) w32 =>
  Pu Tryz.prog (Instr.indexAt 30 (.slice x23.base x23.len x23.cap) (.int .i64 (IntKind.wrap .i64 (v10 - 1)))) (.one (.at .addr)) (fun (x33 : Addr) w34 =>
  Wu Tryz.prog (Instr.storeAt 24 (.pointer (some x33)) (.slice x31.base x31.len x31.cap)) (fun w35 =>
  Cl Tryz.prog 18 #[(.slice x7.base x7.len x7.cap)] (.one (.at .sl)) (fun (x36 : Sl) w37 =>
  Cl Tryz.prog 18 #[(.slice x7.base x7.len x7.cap)] (.one (.at .sl)) (fun (x38 : Sl) w39 =>
  Cl Tryz.prog 13 #[(.pointer v9), (.slice x7.base x7.len x7.cap)] (.one (.at (.int .i64))) (fun (x132 : Int) w133 =>
  Cd (x132 != 0) (q17McodeSpans.j2 R v2 x13 v9 v10 v11 x7 ((x11.len : Nat) : Int) x15 x18 x21 x23 x36 x38 true w133) (Rd Tryz.prog (Instr.loadAt 41 (.pointer (some x18))) (.one (.agg [.int .i64, .int .i64])) (fun x134 w135 =>
  Cl Tryz.prog 28 #[(.pointer v9), (.slice x21.base x21.len x21.cap), (.agg #[(.int .i64 x134.1), (.int .i64 x134.2.1)])] (.one (.at (.int .i64))) (fun (x136 : Int) w137 =>
  Cd (x136 != 0) (q17McodeSpans.j2 R v2 x13 v9 v10 v11 x7 ((x11.len : Nat) : Int) x15 x18 x21 x23 x36 x38 true w137) (Rd Tryz.prog (Instr.loadAt 41 (.pointer (some x15))) (.one (.agg [.int .i64, .int .i64])) (fun x138 w139 =>
  Cl Tryz.prog 28 #[(.pointer v9), (.slice x21.base x21.len x21.cap), (.agg #[(.int .i64 x138.1), (.int .i64 x138.2.1)])] (.one (.at (.int .i64))) (fun (x140 : Int) w141 =>
  Cd (x140 != 0) (q17McodeSpans.j2 R v2 x13 v9 v10 v11 x7 ((x11.len : Nat) : Int) x15 x18 x21 x23 x36 x38 true w141) (Cl Tryz.prog 20 #[(.slice x21.base x21.len x21.cap), (.slice x7.base x7.len x7.cap)] (.one (.at .bool)) (fun (x142 : Bool) w143 =>
  q17McodeSpans.j2 R v2 x13 v9 v10 v11 x7 ((x11.len : Nat) : Int) x15 x18 x21 x23 x36 x38 (!x142) w143) w141)) w139) w137)) w135) w133)) w39) w37) w35) w34) w32) w30) w28) w26) w24) w22) w20) w19) w17) w16) w14) w12) w10) w8) w)
def q17McodeSpans.M (R : EPq) (v0 : (Int × Int × Int × Int × Unit)) (v1 : Sl) (v2 : Sl) (v3 : Int) (w : World) : Prop :=
  Wr Tryz.prog (Instr.box 23 (.agg #[(.int .i64 v0.1), (.int .i64 v0.2.1), (.int .i64 v0.2.2.1), (.int .i64 v0.2.2.2.1)])) (.one (.at .addr)) (fun (x1 : Addr) w2 =>
  Rd Tryz.prog (Instr.loadAt 23 (.pointer (some x1))) (.one (.agg [.int .i64, .int .i64, .int .i64, .int .i64])) (fun x3 w4 =>
  Cl Tryz.prog 10 #[(.agg #[(.int .i64 x3.1), (.int .i64 x3.2.1), (.int .i64 x3.2.2.1), (.int .i64 x3.2.2.2.1)])] (.tup [.at .ptr, .at (.int .i64), .at (.int .i64)]) (fun x5 w6 =>
  Cl Tryz.prog 11 #[] (.one (.at .bool)) (fun (x144 : Bool) w145 =>
  Cd (!x144) (q17McodeSpans.j1 R v1 v2 v3 x5.1 x5.2.1 x5.2.2.1 true w145) (Pu Tryz.prog (do eqGuard .eql 26 (.tmp 41) (.const (.pointer none)) (.pointer x5.1) (.pointer none); binOp .eql 26 (.pointer x5.1) (.pointer none)) (.one (.at .bool)) (fun (x146 : Bool) w147 =>
  q17McodeSpans.j1 R v1 v2 v3 x5.1 x5.2.1 x5.2.2.1 x146 w147) w145)) w6) w4) w2) w
noncomputable def q17McodeSpans.ann (R : EPq) : Ann :=
  .seq (.reg (.op 0 (.wr (.one (.at .addr))) (.op 1 .now (.done)))) (.seq (.reg (.op 0 (.rd (.one (.agg [.int .i64, .int .i64, .int .i64, .int .i64]))) (.op 1 (.cl (.tup [.at .ptr, .at (.int .i64), .at (.int .i64)])) (.op 2 .now (.op 3 .now (.op 4 .now (.op 5 .now (.op 6 .now (.op 7 .now (.op 8 .now (.done))))))))))) (.seq (.join [(1, qcS), (2, qcS), (3, qcI), (9, qcP), (10, qcI), (11, qcI), (43, .at .bool)] (fun s w => q17McodeSpans.j1 R s.1 s.2.1 s.2.2.1 s.2.2.2.1 s.2.2.2.2.1 s.2.2.2.2.2.1 s.2.2.2.2.2.2.1 w) (.reg (.op 0 (.cl (.one (.at .bool))) (.op 1 .now (.op 2 .now (.split 2 (.skip 3 (.skip 4 (.op 5 .now (.done)))) (.op 3 .now (.op 4 (.pu (.one (.at .bool))) (.op 5 .now (.done))))))))) (.cond (.seq (.reg qN1) (.leaf)) (.leaf))) (.seq (.reg (.op 0 .now (.op 1 .now (.op 2 .now (.op 3 (.cl (.one qcS)) (.op 4 .now (.done))))))) (.seq (.reg (.op 0 .now (.op 1 qpA (.op 2 qrS (.op 3 .now (.op 4 .now (.done))))))) (.seq (.reg (.op 0 .now (.op 1 .now (.op 2 (.cl (.one qcI)) (.op 3 .now (.done)))))) (.seq (.reg (.op 0 .now (.op 1 .now (.op 2 (.wr (.one (.at .addr))) (.op 3 .wu (.done)))))) (.seq (.reg (.op 0 .now (.op 1 .now (.op 2 .now (.op 3 (.wr (.one (.at .addr))) (.op 4 .wu (.done))))))) (.seq (.reg (.op 0 .now (.op 1 (.cl (.one qcS)) (.op 2 .now (.done))))) (.seq (.reg (.op 0 .now (.op 1 (.wr (.one qcS)) (.op 2 .now (.done))))) (.seq (.reg (.op 0 .now (.op 1 .now (.op 2 .now (.op 3 (.wr (.one qcS)) (.op 4 .now (.op 5 .now (.op 6 qpA (.op 7 qrS (.op 8 (.wr (.one qcS)) (.op 9 qpA (.op 10 .wu (.done))))))))))))) (.seq (.reg (.op 0 .now (.op 1 (.cl (.one qcS)) (.op 2 .now (.done))))) (.seq (.reg (.op 0 .now (.op 1 (.cl (.one qcS)) (.op 2 .now (.done))))) (.seq (.join [(2, qcS), (3, qcI), (9, qcP), (10, qcI), (11, qcI), (12, qcS), (13, qcI), (14, .at .addr), (15, .at .addr), (16, qcS), (17, qcS), (18, qcS), (19, qcS), (101, .at .bool)] (fun s w => q17McodeSpans.j2 R s.1 s.2.1 s.2.2.1 s.2.2.2.1 s.2.2.2.2.1 s.2.2.2.2.2.1 s.2.2.2.2.2.2.1 s.2.2.2.2.2.2.2.1 s.2.2.2.2.2.2.2.2.1 s.2.2.2.2.2.2.2.2.2.1 s.2.2.2.2.2.2.2.2.2.2.1 s.2.2.2.2.2.2.2.2.2.2.2.1 s.2.2.2.2.2.2.2.2.2.2.2.2.1 s.2.2.2.2.2.2.2.2.2.2.2.2.2.1 w) (.reg (.op 0 .now (.op 1 .now (.op 2 (.cl (.one qcI)) (.op 3 .now (.op 4 .now (.split 4 (.skip 5 (.skip 6 (.skip 7 (.skip 8 (.skip 9 (.op 10 .now (.op 11 .now (.skip 12 (.skip 13 (.skip 14 (.skip 15 (.skip 16 (.op 17 .now (.op 18 .now (.skip 19 (.skip 20 (.skip 21 (.skip 22 (.op 23 .now (.done)))))))))))))))))))) (.op 5 .now (.op 6 .now (.op 7 (.rd (.one (.agg [.int .i64, .int .i64]))) (.op 8 (.cl (.one qcI)) (.op 9 .now (.op 10 .now (.op 11 .now (.split 11 (.skip 12 (.skip 13 (.skip 14 (.skip 15 (.skip 16 (.op 17 .now (.op 18 .now (.skip 19 (.skip 20 (.skip 21 (.skip 22 (.op 23 .now (.done))))))))))))) (.op 12 .now (.op 13 .now (.op 14 (.rd (.one (.agg [.int .i64, .int .i64]))) (.op 15 (.cl (.one qcI)) (.op 16 .now (.op 17 .now (.op 18 .now (.split 18 (.skip 19 (.skip 20 (.skip 21 (.skip 22 (.op 23 .now (.done)))))) (.op 19 .now (.op 20 .now (.op 21 (.cl (.one (.at .bool))) (.op 22 .now (.op 23 .now (.done))))))))))))))))))))))))))))) (.cond (.seq (.reg qN1) (.leaf)) (.leaf))) (.seq (.join [(2, qcS), (3, qcI), (9, qcP), (10, qcI), (11, qcI), (12, qcS), (13, qcI), (14, .at .addr), (15, .at .addr), (16, qcS), (128, .at .bool)] (fun s w => q17McodeSpans.j3 R s.1 s.2.1 s.2.2.1 s.2.2.2.1 s.2.2.2.2.1 s.2.2.2.2.2.1 s.2.2.2.2.2.2.1 s.2.2.2.2.2.2.2.1 s.2.2.2.2.2.2.2.2.1 s.2.2.2.2.2.2.2.2.2.1 s.2.2.2.2.2.2.2.2.2.2.1 w) (.reg (.op 0 .now (.op 1 .now (.op 2 .now (.op 3 (.cl (.one qcI)) (.op 4 .now (.op 5 .now (.split 5 (.skip 6 (.skip 7 (.skip 8 (.skip 9 (.skip 10 (.skip 11 (.op 12 .now (.op 13 .now (.skip 14 (.skip 15 (.skip 16 (.skip 17 (.skip 18 (.skip 19 (.op 20 .now (.op 21 .now (.skip 22 (.skip 23 (.skip 24 (.skip 25 (.op 26 .now (.done)))))))))))))))))))))) (.op 6 .now (.op 7 .now (.op 8 .now (.op 9 (.rd (.one (.agg [.int .i64, .int .i64]))) (.op 10 (.cl (.one qcI)) (.op 11 .now (.op 12 .now (.op 13 .now (.split 13 (.skip 14 (.skip 15 (.skip 16 (.skip 17 (.skip 18 (.skip 19 (.op 20 .now (.op 21 .now (.skip 22 (.skip 23 (.skip 24 (.skip 25 (.op 26 .now (.done)))))))))))))) (.op 14 .now (.op 15 .now (.op 16 .now (.op 17 (.rd (.one (.agg [.int .i64, .int .i64]))) (.op 18 (.cl (.one qcI)) (.op 19 .now (.op 20 .now (.op 21 .now (.split 21 (.skip 22 (.skip 23 (.skip 24 (.skip 25 (.op 26 .now (.done)))))) (.op 22 .now (.op 23 .now (.op 24 (.cl (.one (.at .bool))) (.op 25 .now (.op 26 .now (.done)))))))))))))))))))))))))))))))) (.cond (.seq (.reg qN1) (.leaf)) (.leaf))) (.seq (.reg (.op 0 .now (.op 1 .now (.op 2 .now (.op 3 .now (.op 4 .now (.op 5 .now (.op 6 (.cl (.one qcI)) (.op 7 .now (.op 8 (.cl (.one qcS)) (.op 9 .now (.done)))))))))))) (.seq (.reg qN1) (.seq (.seq (.reg qN1) (.block (.loop [(3, qcI), (9, qcP), (10, qcI), (11, qcI), (12, qcS), (13, qcI), (14, .at .addr), (15, .at .addr), (16, qcS), (20, qcS), (21, qcS), (22, qcI)] (fun k1 s w => q17McodeSpans.b1 R k1 s.1 s.2.1 s.2.2.1 s.2.2.2.1 s.2.2.2.2.1 s.2.2.2.2.2.1 s.2.2.2.2.2.2.1 s.2.2.2.2.2.2.2.1 s.2.2.2.2.2.2.2.2.1 s.2.2.2.2.2.2.2.2.2.1 s.2.2.2.2.2.2.2.2.2.2.1 s.2.2.2.2.2.2.2.2.2.2.2.1 w) (fun k1 => .seq (.seq (.reg qN5) (.cond (.leaf) (.leaf))) (.join [(3, qcI), (9, qcP), (10, qcI), (11, qcI), (12, qcS), (13, qcI), (14, .at .addr), (15, .at .addr), (16, qcS), (20, qcS), (21, qcS), (22, qcI)] (fun s w => q17McodeSpans.j4 R k1 s.1 s.2.1 s.2.2.1 s.2.2.2.1 s.2.2.2.2.1 s.2.2.2.2.2.1 s.2.2.2.2.2.2.1 s.2.2.2.2.2.2.2.1 s.2.2.2.2.2.2.2.2.1 s.2.2.2.2.2.2.2.2.2.1 s.2.2.2.2.2.2.2.2.2.2.1 s.2.2.2.2.2.2.2.2.2.2.2.1 w) (.block (.seq (.reg (.op 0 .now (.op 1 .now (.op 2 qpA (.op 3 (.rd (.one (.at .bool))) (.done)))))) (.cond (.seq (.reg (.op 0 .now (.op 1 .now (.op 2 (.wr (.one qcS)) (.op 3 (.wr (.one qcS)) (.op 4 .now (.done))))))) (.reg (.op 0 .now (.op 1 .now (.op 2 .now (.op 3 (.wr (.one qcS)) (.op 4 qpA (.op 5 .wu (.done))))))))) (.leaf)))) (.reg qN3)))))) (.seq (.reg (.op 0 .now (.op 1 .now (.op 2 (.cl (.tup [.agg [.sl, .sl, .sl, .sl], .at (.int .i64)])) (.op 3 .now (.op 4 .now (.op 5 .now (.op 6 (.wr (.one (.at .addr))) (.op 7 .wu (.op 8 .now (.done))))))))))) (.seq (.join [(3, qcI), (9, qcP), (12, qcS), (13, qcI), (14, .at .addr), (15, .at .addr), (16, qcS), (21, qcS), (23, .at .addr), (173, .at .bool)] (fun s w => q17McodeSpans.j5 R s.1 s.2.1 s.2.2.1 s.2.2.2.1 s.2.2.2.2.1 s.2.2.2.2.2.1 s.2.2.2.2.2.2.1 s.2.2.2.2.2.2.2.1 s.2.2.2.2.2.2.2.2.1 s.2.2.2.2.2.2.2.2.2.1 w) (.reg (.op 0 .now (.op 1 .now (.op 2 .now (.split 2 (.skip 3 (.skip 4 (.skip 5 (.skip 6 (.skip 7 (.skip 8 (.op 9 .now (.done)))))))) (.op 3 .now (.op 4 (.rd (.one (.agg [.sl, .sl, .sl, .sl]))) (.op 5 .now (.op 6 (.rd (.one (.agg [.int .i64, .int .i64]))) (.op 7 (.cl (.one qcI)) (.op 8 .now (.op 9 .now (.done))))))))))))) (.cond (.seq (.reg qN1) (.leaf)) (.leaf))) (.seq (.seq (.reg qN1) (.block (.loop [(3, qcI), (9, qcP), (12, qcS), (13, qcI), (14, .at .addr), (15, .at .addr), (16, qcS), (21, qcS), (23, .at .addr), (25, qcI)] (fun k2 s w => q17McodeSpans.b2 R k2 s.1 s.2.1 s.2.2.1 s.2.2.2.1 s.2.2.2.2.1 s.2.2.2.2.2.1 s.2.2.2.2.2.2.1 s.2.2.2.2.2.2.2.1 s.2.2.2.2.2.2.2.2.1 s.2.2.2.2.2.2.2.2.2.1 w) (fun k2 => .seq (.seq (.reg qN4) (.cond (.leaf) (.leaf))) (.seq (.block (.seq (.reg qN2) (.block (.loop [(3, qcI), (9, qcP), (12, qcS), (13, qcI), (14, .at .addr), (15, .at .addr), (16, qcS), (21, qcS), (23, .at .addr), (25, qcI), (26, qcI)] (fun k3 s w => q17McodeSpans.b3 R k2 k3 s.1 s.2.1 s.2.2.1 s.2.2.2.1 s.2.2.2.2.1 s.2.2.2.2.2.1 s.2.2.2.2.2.2.1 s.2.2.2.2.2.2.2.1 s.2.2.2.2.2.2.2.2.1 s.2.2.2.2.2.2.2.2.2.1 s.2.2.2.2.2.2.2.2.2.2.1 w) (fun k3 => .seq (.seq (.reg qN3) (.cond (.leaf) (.leaf))) (.seq (.block (.seq (.reg (.op 0 .now (.op 1 .now (.op 2 .now (.op 3 qpA (.op 4 (.rd (.one qcI)) (.op 5 qpA (.op 6 qrS (.op 7 .now (.op 8 qpA (.op 9 qrB (.op 10 .now (.done))))))))))))) (.cond (.seq (.reg qN1) (.leaf)) (.leaf)))) (.reg qN3))))))) (.reg qN3)))))) (.seq (.join [(3, qcI), (9, qcP), (12, qcS), (14, .at .addr), (15, .at .addr), (16, qcS), (219, .at .bool)] (fun s w => q17McodeSpans.j6 R s.1 s.2.1 s.2.2.1 s.2.2.2.1 s.2.2.2.2.1 s.2.2.2.2.2.1 s.2.2.2.2.2.2.1 w) (.reg (.op 0 .now (.op 1 (.rd (.one (.agg [.sl, .sl, .sl, .sl]))) (.op 2 .now (.op 3 (.rd (.one (.agg [.int .i64, .int .i64]))) (.op 4 (.cl (.one qcI)) (.op 5 .now (.op 6 .now (.split 6 (.skip 7 (.skip 8 (.skip 9 (.skip 10 (.op 11 .now (.op 12 .now (.skip 13 (.skip 14 (.skip 15 (.skip 16 (.skip 17 (.skip 18 (.skip 19 (.skip 20 (.skip 21 (.op 22 .now (.done))))))))))))))))) (.op 7 .now (.op 8 .now (.op 9 (.cl (.one (.at .bool))) (.op 10 .now (.op 11 .now (.op 12 .now (.split 12 (.skip 13 (.skip 14 (.skip 15 (.skip 16 (.skip 17 (.skip 18 (.skip 19 (.skip 20 (.skip 21 (.op 22 .now (.done))))))))))) (.op 13 .now (.op 14 (.rd (.one (.agg [.sl, .sl, .sl, .sl]))) (.op 15 .now (.op 16 .now (.op 17 .now (.op 18 .now (.op 19 .now (.op 20 (.cl (.one qcI)) (.op 21 .now (.op 22 .now (.done))))))))))))))))))))))))))) (.cond (.seq (.reg qN1) (.leaf)) (.leaf))) (.seq (.reg (.op 0 .now (.op 1 qpA (.op 2 qrS (.op 3 qpA (.op 4 qrB (.op 5 .now (.op 6 qpA (.op 7 .wu (.done)))))))))) (.seq (.reg (.op 0 .now (.op 1 .now (.op 2 (.rd (.one (.agg [.int .i64, .int .i64]))) (.op 3 (.cl (.tup [.at .bool, .at (.int .i64)])) (.op 4 .now (.op 5 .now (.op 6 .now (.op 7 .now (.op 8 .now (.done))))))))))) (.seq (.reg (.op 0 .now (.op 1 .now (.op 2 (.rd (.one (.agg [.int .i64, .int .i64]))) (.op 3 (.cl (.tup [.at .bool, .at (.int .i64)])) (.op 4 .now (.op 5 .now (.op 6 .now (.op 7 .now (.op 8 .now (.done))))))))))) (.seq (.reg (.op 0 .now (.op 1 .now (.op 2 (.cl (.tup [.at .bool, .at (.int .i64)])) (.op 3 .now (.op 4 .now (.op 5 .now (.op 6 .now (.op 7 .now (.done)))))))))) (.seq (.regD (.op 0 .now (.op 1 .now (.op 2 .now (.split 2 (.op 3 .now (.op 4 .now (.op 5 .now (.op 6 .now (.split 6 (.op 7 .now (.op 8 .now (.op 9 .now (.op 10 .now (.split 10 (.op 11 .now (.op 12 .now (.op 13 .now (.op 14 .now (.split 14 (.op 15 .now (.op 16 .now (.op 17 .now (.op 18 .now (.op 19 .now (.op 20 .now (.split 20 (.op 21 .now (.op 22 .now (.op 23 .now (.op 24 .now (.op 25 .now (.op 26 .now (.split 26 (.op 27 .now (.op 28 (.pu (.one qcS)) (.op 29 .now (.op 30 (.pu (.one qcS)) (.op 31 (.cl (.one (.at .bool))) (.op 32 .now (.op 33 .now (.done)))))))) (.skip 27 (.skip 28 (.skip 29 (.skip 30 (.skip 31 (.op 32 .now (.op 33 .now (.done))))))))))))))) (.skip 21 (.skip 22 (.skip 23 (.skip 24 (.op 25 .now (.op 26 .now (.skip 27 (.skip 28 (.skip 29 (.skip 30 (.skip 31 (.op 32 .now (.op 33 .now (.done))))))))))))))))))))) (.skip 15 (.skip 16 (.skip 17 (.skip 18 (.op 19 .now (.op 20 .now (.skip 21 (.skip 22 (.skip 23 (.skip 24 (.op 25 .now (.op 26 .now (.skip 27 (.skip 28 (.skip 29 (.skip 30 (.skip 31 (.op 32 .now (.op 33 .now (.done))))))))))))))))))))))))) (.skip 11 (.skip 12 (.op 13 .now (.op 14 .now (.skip 15 (.skip 16 (.skip 17 (.skip 18 (.op 19 .now (.op 20 .now (.skip 21 (.skip 22 (.skip 23 (.skip 24 (.op 25 .now (.op 26 .now (.skip 27 (.skip 28 (.skip 29 (.skip 30 (.skip 31 (.op 32 .now (.op 33 .now (.done))))))))))))))))))))))))))))) (.skip 7 (.skip 8 (.op 9 .now (.op 10 .now (.skip 11 (.skip 12 (.op 13 .now (.op 14 .now (.skip 15 (.skip 16 (.skip 17 (.skip 18 (.op 19 .now (.op 20 .now (.skip 21 (.skip 22 (.skip 23 (.skip 24 (.op 25 .now (.op 26 .now (.skip 27 (.skip 28 (.skip 29 (.skip 30 (.skip 31 (.op 32 .now (.op 33 .now (.done))))))))))))))))))))))))))))))))) (.skip 3 (.skip 4 (.op 5 .now (.op 6 .now (.skip 7 (.skip 8 (.op 9 .now (.op 10 .now (.skip 11 (.skip 12 (.op 13 .now (.op 14 .now (.skip 15 (.skip 16 (.skip 17 (.skip 18 (.op 19 .now (.op 20 .now (.skip 21 (.skip 22 (.skip 23 (.skip 24 (.op 25 .now (.op 26 .now (.skip 27 (.skip 28 (.skip 29 (.skip 30 (.skip 31 (.op 32 .now (.op 33 .now (.done))))))))))))))))))))))))))))))))))))) (.leaf)))))))))))))))))))))))))))
theorem q17McodeSpans.run (R : EPq) (v0 : (Int × Int × Int × Int × Unit)) (v1 : Sl) (v2 : Sl) (v3 : Int) (w : World) (h : q17McodeSpans.M R v0 v1 v2 v3 w) : Calls Tryz.prog 8 #[(.agg #[(.int .i64 v0.1), (.int .i64 v0.2.1), (.int .i64 v0.2.2.1), (.int .i64 v0.2.2.2.1)]), (.slice v1.base v1.len v1.cap), (.slice v2.base v2.len v2.cap), (.int .i64 v3)] w R := by
  refine calls_of_lift mix_eqg Tryz.func8 (c := q17McodeSpans.body) (by kernel_rfl) [.at .bool] (q17McodeSpans.ann R) 280 Tryz.ntmps8 [.tmp 8] (by kernel_rfl) (Nat.le_of_ble_eq_true (by kernel_rfl)) ?_ ?_
  · exact ⟨tv, ⟨tv, ⟨⟨fun s w => mq, tv, ⟨⟨tv, tv⟩, tv⟩⟩, ⟨tv, ⟨tv, ⟨tv, ⟨tv, ⟨tv, ⟨tv, ⟨tv, ⟨tv, ⟨tv, ⟨tv, ⟨⟨fun s w => mq, tv, ⟨⟨tv, tv⟩, tv⟩⟩, ⟨⟨fun s w => mq, tv, ⟨⟨tv, tv⟩, tv⟩⟩, ⟨tv, ⟨tv, ⟨⟨tv, (fun k1 => ⟨fun s w => mq, ⟨⟨tv, ⟨tv, tv⟩⟩, ⟨fun s w => mq, ⟨tv, ⟨⟨tv, tv⟩, tv⟩⟩, tv⟩⟩⟩)⟩, ⟨tv, ⟨⟨fun s w => mq, tv, ⟨⟨tv, tv⟩, tv⟩⟩, ⟨⟨tv, (fun k2 => ⟨fun s w => mq, ⟨⟨tv, ⟨tv, tv⟩⟩, ⟨⟨tv, (fun k3 => ⟨fun s w => mq, ⟨⟨tv, ⟨tv, tv⟩⟩, ⟨⟨tv, ⟨⟨tv, tv⟩, tv⟩⟩, tv⟩⟩⟩)⟩, tv⟩⟩⟩)⟩, ⟨⟨fun s w => mq, tv, ⟨⟨tv, tv⟩, tv⟩⟩, ⟨tv, ⟨tv, ⟨tv, ⟨tv, ⟨(show Region.noSelect _ = true by kernel_rfl), tv⟩⟩⟩⟩⟩⟩⟩⟩⟩⟩⟩⟩⟩⟩⟩⟩⟩⟩⟩⟩⟩⟩⟩⟩⟩⟩⟩
  · exact Eq.mp (show q17McodeSpans.M R v0 v1 v2 v3 w = _ by kernel_rfl) h
end Go.Proofs.YtbiilejgfihohaaGreat
namespace Go.Proofs.YtbiilejgfihohaaGreat
open Go Go.Cu Go.RowKit
abbrev planV (sm su sr : Sl) : List Value := [slV sm, slV su, slV sr, slV ⟨none, 0, 0⟩]
theorem fits_gv' {W0 w : World} {T : Ths} {j : Nat} {a : CodA} {f : Int} {k m b : Nat} {Q : Mtx} {es : List Tr.Ent} {clock : Int} {sm su sr : Sl} {L U : List Nat} {hsr : List Sl} {D : Mtx} (hS : Sep W0 w T) (hC : Cod T j a f k m b Q es clock)
    (hm : Rds natV w sm L) (hu : Rds natV w su U) (hr : MatR w sr hsr D) (hL : NumL (k + m) L) (hU : NumL (k + m) U) (hUl : U.length = k) (hD : Shp D L.length k) (hLU : ∀ x ∈ L, x ∉ U) :
    Gv Tryz.prog 48 #[.pointer (at0 a.cp), .agg #[.slice sm.base sm.len sm.cap, .slice su.base su.len su.cap, .slice sr.base sr.len sr.cap, .slice none 0 0]] (.bool true) w := by
  refine mC_fits.run _ (at0 a.cp) (sm, su, sr, ⟨none, 0, 0⟩, ()) w ?_
  generalize hRR : (fun (e : Ending) (w' : World) => e = .returned (.bool true) ∧ Ex w w') = R
  unfold mC_fits.M
  have hml := hm.1
  have hul := hu.1
  have hrl := hr.hdr.1
  have hrl2 := hr.len
  have hkm := hC.hkm
  have hk1 := hC.hk1
  have hLl := hL.len
  refine Wr_box fun w1 hB hx1 => ?_
  have hB1 : Has w1 w.heap.size (planV sm su sr) 49 := hB
  generalize w.heap.size = g at hB hB1
  have e1 : (⟨g, 0, none⟩ : Addr).add 1 = ⟨g, 1, none⟩ := rfl
  have e2 : (⟨g, 0, none⟩ : Addr).add 2 = ⟨g, 2, none⟩ := rfl
  rw [e1, e2]
  have hxd := hx1.trans (Ex.drew w1)
  have hSd := hS.exx hxd
  refine Held_of (fun w' => Has w' g (planV sm su sr) 49 ∧ Has w' a.cp (codV a f k m) 78) ⟨hB1.ex (Ex.drew w1), hC.cel hSd⟩ ?_
  refine RdS_has (c := .sl) (x := sm) (fun w' h => h.1) (by kernel_rfl) rfl ?_
  refine Cl_gv (d := .one (.at .bool)) (x := true) (rising_gv hSd hC (hm.ex hxd) hL) fun w2 hx2 => ?_
  have hxd2 := hxd.trans hx2
  have hS2 := hSd.exx hx2
  have hB2 := (hB1.ex (Ex.drew w1)).ex hx2
  refine ⟨⟨hB2, hC.cel hS2⟩, Cd_f ?_⟩
  refine RdS_has (c := .sl) (x := su) (B := g) (i := 1) (fun w' h => h.1) (by kernel_rfl) rfl ?_
  refine Cl_gv (d := .one (.at .bool)) (x := true) (rising_gv hS2 hC (hu.ex hxd2) hU) fun w3 hx3 => ?_
  have hxd3 := hxd2.trans hx3
  have hS3 := hS2.exx hx3
  have hB3 := hB2.ex hx3
  refine ⟨⟨hB3, hC.cel hS3⟩, Cd_f ?_⟩
  refine RdS_has (c := .sl) (x := su) (B := g) (i := 1) (fun w' h => h.1) (by kernel_rfl) rfl ?_
  refine Pu_nil (RdS_has (c := .int .i64) (x := (k : Int)) (B := a.cp) (i := 1) (fun w' h => h.2) (by kernel_rfl) rfl ?_)
  refine Cd_ne (fun h => absurd (by omega) h) (fun _ => ?_)
  refine RdS_has (c := .sl) (x := sr) (B := g) (i := 2) (fun w' h => h.1) (by kernel_rfl) rfl ?_
  refine RdS_has (c := .sl) (x := sm) (B := g) (i := 0) (fun w' h => h.1) (by kernel_rfl) rfl ?_
  have e3 : (((sr.len : Nat) : Int) != ((sm.len : Nat) : Int)) = false := by
    rw [show sr.len = sm.len by rw [hrl, hrl2, hD.1, hml]]; simp
  rw [e3]
  unfold mC_fits.j1
  refine Cd_f ?_
  have hd3 := Ex.drew w3
  have hxd4 := hxd3.trans hd3
  have hS4 := hS3.exx hd3
  have hB4 := hB3.ex hd3
  refine Held_of (fun w' => Has w' a.cp (codV a f k m) 78) (hC.cel hS4) ?_
  refine Pu_nil (RdS_has (c := .int .i64) (x := (k : Int)) (B := a.cp) (i := 1) (fun w' h => h) (by kernel_rfl) rfl ?_)
  refine Pu_nil (RdS_has (c := .int .i64) (x := (m : Int)) (B := a.cp) (i := 2) (fun w' h => h) (by kernel_rfl) rfl ?_)
  rw [wrap64 (x := (k : Int) + (m : Int)) (by omega) (by omega)]
  refine Wr_make (f := bV) (z := false) tO iO rfl (k + m) (by omega) (by omega) (by omega) (by omega) fun sb w5 hsb hBb hx5 => ?_
  have hO5 : Own bV 4 w3.drew.heap.size w5 sb (List.replicate (k + m) false) := by rw [hsb]; exact own_of_has (by simp) (by omega) hBb (Nat.le_refl _)
  refine ⟨hC.cel (hS4.exx hx5), ?_⟩
  unfold mC_fits.j2
  rw [e1]
  refine Rd_has (c := .sl) (x := su) (B := g) (i := 1) (hB4.ex hx5) (by kernel_rfl) rfl ?_
  unfold mC_fits.l1
  refine loopW_of (fun st w' => ∃ (i : Nat) (B : List Bool), st = (at0 a.cp, ⟨g, 0, none⟩, sb, su, ((su.len : Nat) : Int), (i : Int), ()) ∧ i ≤ k ∧ Ex w3.drew w' ∧ Own bV 4 w3.drew.heap.size w' sb B ∧ B.length = k + m ∧ ∀ x, B.getD x false = true → x ∈ U) (fun st _ => ((k : Int) - st.2.2.2.2.2.1).toNat) ?_
    ⟨0, _, rfl, Nat.zero_le _, hx5, hO5, by simp, fun x h => by
      rw [List.getD_eq_getElem?_getD, List.getElem?_replicate] at h
      split at h <;> simp at h⟩
  rintro k1 _ w6 ⟨i, B, rfl, hi, hx6, hO6, hBl, hBU⟩ hk1
  unfold mC_fits.b1
  dsimp only at hk1 ⊢
  have hxd6 := hxd4.trans hx6
  refine Cd_dec (fun hlt => ?_) (fun hge => ?_)
  · obtain ⟨x, hx⟩ := atx (l := U) (i := i) (by omega)
    have hxl := hU.lt x (List.mem_of_getElem? hx)
    refine rd_nat (hu.ex hxd6) hx ?_
    refine Wu_set (f := bV) (x := true) (i := x) hO6 (by omega) tO sO sO rfl rfl fun w7 hO7 hm7 => ?_
    rw [wrap64 (x := (i : Int) + 1) (by omega) (by omega), show (i : Int) + 1 = ((i + 1 : Nat) : Int) by omega]
    refine hk1 _ _ ⟨i + 1, _, rfl, by omega, hx6.into hm7 (fun b hb => (hO6.base b hb).1), hO7, by rw [List.length_set]; exact hBl, fun y hy => ?_⟩ (by dsimp only; omega)
    by_cases e : y = x
    · rw [e]; exact List.mem_of_getElem? hx
    · refine hBU y ?_
      rw [List.getD_eq_getElem?_getD, List.getElem?_set_ne (fun h => e h.symm)] at hy
      rw [List.getD_eq_getElem?_getD]; exact hy
  clear hk1
  refine Rd_has (c := .sl) (x := sm) (B := g) (i := 0) (hB4.ex hx6) (by kernel_rfl) rfl ?_
  unfold mC_fits.l2
  refine loopW_of (fun st w' => ∃ i : Nat, st = (at0 a.cp, ⟨g, 0, none⟩, sb, sm, ((sm.len : Nat) : Int), (i : Int), ()) ∧ i ≤ L.length ∧ Ex w6 w') (fun st _ => (((L.length : Nat) : Int) - st.2.2.2.2.2.1).toNat) ?_ ⟨0, rfl, Nat.zero_le _, Ex.refl _⟩
  rintro k2 _ w7 ⟨i, rfl, hi, hx7⟩ hk2
  unfold mC_fits.b2
  dsimp only at hk2 ⊢
  rw [e2]
  refine Cd_dec (fun hlt => ?_) (fun hge => ?_)
  · obtain ⟨x, hx⟩ := atx (l := L) (i := i) (by omega)
    have hxl := hL.lt x (List.mem_of_getElem? hx)
    have hxd7 := hxd6.trans hx7
    refine rd_nat (hm.ex hxd7) hx ?_
    have hx8 := hx7.trans (Ex.drew w7)
    have hxd8 := hxd7.trans (Ex.drew w7)
    obtain ⟨bb, hbb⟩ := atx (l := B) (i := x) (by omega)
    have hbf : bb = false := by
      cases bb with
      | false => rfl
      | true => exact absurd (hBU x (getD_get hbb)) (hLU x (List.mem_of_getElem? hx))
    subst hbf
    refine Pu_idxB (hO6.rds.ex hx8) tO sO (by omega) (by omega) fun a2 y2 ha2 hy2 => ?_
    rw [Int.toNat_natCast, hbb] at hy2
    cases hy2
    refine RdS_same (Rd_one (c := .bool) (x := false) (by kernel_rfl) (show _ = some (bV false) from rds_at (f := bV) (hO6.rds.ex hx8) ha2 hbb) ?_)
    refine Cd_f ?_
    refine RdS_same (Rd_has (c := .sl) (x := sr) (B := g) (i := 2) ((hB4.ex hx6).ex hx8) (by kernel_rfl) rfl ?_)
    obtain ⟨d, hdd, hddl⟩ := row_at hD (show i < L.length by omega)
    have hr8 := hr.ex hxd8
    obtain ⟨h, hh⟩ := atx (l := hsr) (i := i) (by rw [hr8.len, hD.1]; omega)
    have hhl := (hr8.row i h d hh hdd).1
    refine rdS_hdr hr8.hdr (fun w' h' => by cases h'; exact hr8.hdr) hh ?_
    refine Pu_nil (RdS_same (Rd_has (c := .int .i64) (x := (k : Int)) (B := a.cp) (i := 1) (hC.cel (hS.exx hxd8)) (by kernel_rfl) rfl ?_))
    have e4 : (((h.len : Nat) : Int) != (k : Int)) = false := by rw [show h.len = k by omega]; simp
    rw [e4]
    unfold mC_fits.j3
    refine Cd_f ?_
    rw [wrap64 (x := (i : Int) + 1) (by omega) (by omega), show (i : Int) + 1 = ((i + 1 : Nat) : Int) by omega]
    exact hk2 _ _ ⟨i + 1, rfl, by omega, hx8⟩ (by dsimp only; omega)
  · subst hRR
    exact ⟨rfl, hxd6.trans hx7⟩
end Go.Proofs.YtbiilejgfihohaaGreat
namespace Go.Proofs.YtbiilejgfihohaaGreat
open Go Go.Cu Go.RowKit
def putR (L : List Nat) (M D : Mtx) : Mtx := (L.zip D).foldl (fun M p => M.set p.1 p.2) M
theorem putR_cons (p : Nat) (d : List F8) (L : List Nat) (M D : Mtx) : putR (p :: L) M (d :: D) = putR L (M.set p d) D := rfl
theorem putR_len : ∀ (L : List Nat) (M D : Mtx), (putR L M D).length = M.length
  | [], M, D => rfl
  | p :: L, M, [] => rfl
  | p :: L, M, d :: D => by rw [putR_cons, putR_len, List.length_set]
theorem putR_out {x : Nat} : ∀ (L : List Nat) (M D : Mtx), x ∉ L → (putR L M D)[x]? = M[x]?
  | [], M, D, _ => rfl
  | p :: L, M, [], _ => rfl
  | p :: L, M, d :: D, h => by
    rw [putR_cons, putR_out L _ D (fun h' => h (List.mem_cons_of_mem _ h')), List.getElem?_set_ne (fun e => h (by rw [e]; simp))]
theorem putR_in {x : Nat} : ∀ (L : List Nat) (M D : Mtx) (i : Nat), L.length = D.length → L.Nodup → L[i]? = some x → x < M.length → (putR L M D)[x]? = D[i]?
  | [], M, D, i, _, _, h, _ => by simp at h
  | p :: L, M, [], i, h, _, _, _ => by simp at h
  | p :: L, M, d :: D, i, hl, hn, hi, hx => by
    have hn' := List.nodup_cons.1 hn
    rw [putR_cons]
    cases i with
    | zero =>
      obtain rfl : p = x := by simpa using hi
      rw [putR_out L _ D hn'.1, List.getElem?_set, if_pos rfl, if_pos hx]
      rfl
    | succ i => rw [putR_in L _ D i (by simpa using hl) hn'.2 (by simpa using hi) (by rw [List.length_set]; exact hx)]; rfl
theorem putR_set {L : List Nat} {M D : Mtx} {i x : Nat} {r : List F8} (hl : L.length = D.length) (hn : L.Nodup) (hL : ∀ y ∈ L, y < M.length) (hi : L[i]? = some x) : (putR L M D).set x r = putR L M (D.set i r) := by
  have hx := hL x (List.mem_of_getElem? hi)
  have hil := (List.getElem?_eq_some_iff.1 hi).1
  refine List.ext_getElem? fun y => ?_
  rw [List.getElem?_set]
  by_cases e : x = y
  · subst e
    rw [if_pos rfl, if_pos (by rw [putR_len]; exact hx), putR_in L M _ i (by rw [List.length_set]; exact hl) hn hi hx, List.getElem?_set, if_pos rfl, if_pos (by omega)]
  · rw [if_neg e]
    by_cases hy : y ∈ L
    · obtain ⟨i', hi'⟩ := List.mem_iff_getElem?.1 hy
      rw [putR_in L M D i' hl hn hi' (hL y hy), putR_in L M _ i' (by rw [List.length_set]; exact hl) hn hi' (hL y hy), List.getElem?_set_ne (fun e' => e (by subst e'; rw [hi] at hi'; cases hi'; rfl))]
    · rw [putR_out L M D hy, putR_out L M _ hy]
theorem usedM_at {M : Mtx} {L : List Nat} {i x : Nat} (h : L[i]? = some x) : (usedM M L)[i]? = some (M.getD x []) := by unfold usedM; rw [List.getElem?_map, h]; rfl
theorem usedM_len (M : Mtx) (L : List Nat) : (usedM M L).length = L.length := by unfold usedM; rw [List.length_map]
theorem putR_self {L : List Nat} {M : Mtx} (hn : L.Nodup) (hL : ∀ y ∈ L, y < M.length) : putR L M (usedM M L) = M := by
  refine List.ext_getElem? fun y => ?_
  by_cases hy : y ∈ L
  · obtain ⟨i, hi⟩ := List.mem_iff_getElem?.1 hy
    rw [putR_in L M _ i (usedM_len M L).symm hn hi (hL y hy), usedM_at hi, List.getD_eq_getElem?_getD, List.getElem?_eq_getElem (hL y hy)]
    rfl
  · exact putR_out L M _ hy
theorem shp_used {M : Mtx} {L : List Nat} {r n : Nat} (h : Shp M r n) (hL : ∀ x ∈ L, x < r) : Shp (usedM M L) L.length n := by
  refine ⟨usedM_len M L, fun x hx => ?_⟩
  unfold usedM at hx
  obtain ⟨i, hi, rfl⟩ := List.mem_map.1 hx
  exact h.row (hL i hi)
def hdrs (hs : List Sl) (L : List Nat) : List Sl := L.map (fun x => hs.getD x ⟨none, 0, 0⟩)
theorem hdrs_at {hs : List Sl} {L : List Nat} {i x : Nat} (h : L[i]? = some x) : (hdrs hs L)[i]? = some (hs.getD x ⟨none, 0, 0⟩) := by unfold hdrs; rw [List.getElem?_map, h]; rfl
theorem hdrs_inv {hs : List Sl} {L : List Nat} {i : Nat} {g : Sl} (hL : ∀ x ∈ L, x < hs.length) (h : (hdrs hs L)[i]? = some g) : ∃ x, L[i]? = some x ∧ hs[x]? = some g := by
  unfold hdrs at h
  rw [List.getElem?_map] at h
  cases hx : L[i]? with
  | none => rw [hx] at h; cases h
  | some x =>
    rw [hx] at h
    have hlt := hL x (List.mem_of_getElem? hx)
    refine ⟨x, rfl, ?_⟩
    rw [← Option.some.inj h, List.getElem?_eq_getElem hlt]
    show some hs[x] = some (hs.getD x ⟨none, 0, 0⟩)
    rw [List.getD_eq_getElem?_getD, List.getElem?_eq_getElem hlt]
    rfl
def FlK (q : Ky) : Prop := q = .ps 5 ∨ q = .ps 6 ∨ q = .rk 5 ∨ q = .rk 6
theorem fl_ne {q : Ky} (h : ¬ FlK q) : q ≠ .ps 5 ∧ q ≠ .ps 6 ∧ q ≠ .rk 5 ∧ q ≠ .rk 6 := ⟨fun e => h (.inl e), fun e => h (.inr (.inl e)), fun e => h (.inr (.inr (.inl e))), fun e => h (.inr (.inr (.inr e)))⟩
theorem fill_no {W0 w : World} {T : Ths} {j : Nat} {a : CodA} {f : Int} {k m b n fr to : Nat} {Q M : Mtx} {es : List Tr.Ent} {clock : Int} {ks : Ky} {s sm su sr : Sl} {hs : List Sl} (hS : Sep W0 w T) (hC : Cod T j a f k m b Q es clock) (hk : T ks = ShT s hs M)
    (hM : Shp M (k + m) n) (hn1 : 1 ≤ n) (hn2 : n ≤ 1048576) (h1 : fr ≤ to) (h2 : n < to) :
    Cl Tryz.prog 30 #[.pointer (at0 a.cp), .agg #[.slice sm.base sm.len sm.cap, .slice su.base su.len su.cap, .slice sr.base sr.len sr.cap, .slice none 0 0], .slice s.base s.len s.cap, .agg #[.int .i64 (fr : Int), .int .i64 (to : Int)]] (.one (.at (.int .i64)))
      (fun x w' => x = 7 ∧ Sep W0 w' T) w := by
  refine mC_Fill.run _ (at0 a.cp) (sm, su, sr, ⟨none, 0, 0⟩, ()) s ((fr : Int), (to : Int), ()) w ?_
  generalize hRR : (fun (e : Ending) (w' : World) => ∃ x : Int, e = .returned ((Sh.one (.at (.int .i64))).enc x) ∧ x = 7 ∧ Sep W0 w' T) = R
  unfold mC_Fill.M
  have hB := hC.cel hS
  have hMR := sh_matR hS hk
  have hhl : hs.length = k + m := by rw [hMR.len, hM.1]
  have hLen : Len n hs := hMR.lenS hM.2
  refine Wr_box fun w1 hB1 hx1 => ?_
  refine Wr_box fun w2 hB2 hx2 => ?_
  have hx12 := hx1.trans hx2
  refine Cl_mono (cwhole_ok (hB.ex hx12) (hMR.hdr.ex hx12) hhl hLen hn1 hn2 hC.hf hC.hk1 hC.hm1 hC.hkm) ?_
  rintro _ w3 ⟨rfl, hx3⟩
  refine Cd_t ?_
  refine Rd_hasN (x := ((fr : Int), (to : Int), ())) (hB2.ex hx3) (by kernel_rfl) rfl ?_
  refine Cl_gv (d := .one (.at (.int .i64))) (x := 7) (by have := mwithin_gv (w := w3) (n := n) h1; rw [if_neg (by omega)] at this; exact this) fun w4 hx4 => ?_
  unfold mC_Fill.j1
  refine Cd_t ?_
  subst hRR
  exact ⟨7, rfl, rfl, hS.exx ((hx12.trans hx3).trans hx4)⟩
theorem fill_ok {W0 w : World} {T : Ths} {j : Nat} {a : CodA} {f : Int} {k m b n fr to : Nat} {Q M : Mtx} {es : List Tr.Ent} {clock : Int} {ks q0 q1 q2 : Ky} {s sm su sr : Sl} {hs hsr : List Sl} {L U : List Nat} {D : Mtx} (hS : Sep W0 w T) (hC : Cod T j a f k m b Q es clock) (hk : T ks = ShT s hs M) (hkb : ∀ i, ks ≠ .bx i)
    (t0 : T q0 = IntT sm L) (t1 : T q1 = IntT su U) (t2 : T q2 = ShT sr hsr D) (n0 : q0 ≠ ks) (n1 : q1 ≠ ks) (n2 : q2 ≠ ks) (fk : ¬ FlK ks) (f0 : ¬ FlK q0) (f1 : ¬ FlK q1) (f2 : ¬ FlK q2)
    (hM : Shp M (k + m) n) (hL : NumL (k + m) L) (hU : NumL (k + m) U) (hUl : U.length = k) (hD : Shp D L.length k) (hLU : ∀ x ∈ L, x ∉ U) (hn1 : 1 ≤ n) (hn2 : n ≤ 1048576) (h1 : fr ≤ to) (h2 : to ≤ n) :
    Cl Tryz.prog 30 #[.pointer (at0 a.cp), .agg #[.slice sm.base sm.len sm.cap, .slice su.base su.len su.cap, .slice sr.base sr.len sr.cap, .slice none 0 0], .slice s.base s.len s.cap, .agg #[.int .i64 (fr : Int), .int .i64 (to : Int)]] (.one (.at (.int .i64)))
      (fun x w' => x = 0 ∧ ∃ T', Sep W0 w' T' ∧ T' ks = ShT s hs (putR L M (applyM fr to n D (usedM M U) (usedM M L))) ∧ ∀ q, q ≠ ks → ¬ FlK q → T' q = T q) w := by
  refine mC_Fill.run _ (at0 a.cp) (sm, su, sr, ⟨none, 0, 0⟩, ()) s ((fr : Int), (to : Int), ()) w ?_
  generalize hRR : (fun (e : Ending) (w' : World) => ∃ x : Int, e = .returned ((Sh.one (.at (.int .i64))).enc x) ∧ x = 0 ∧ ∃ T', Sep W0 w' T' ∧ T' ks = ShT s hs (putR L M (applyM fr to n D (usedM M U) (usedM M L))) ∧ ∀ q, q ≠ ks → ¬ FlK q → T' q = T q) = R
  unfold mC_Fill.M
  have hMR := sh_matR hS hk
  have hhl : hs.length = k + m := by rw [hMR.len, hM.1]
  have hLen : Len n hs := hMR.lenS hM.2
  have hkm := hC.hkm
  have hk1 := hC.hk1
  have hLl := hL.len
  obtain ⟨fk1, fk2, fk3, fk4⟩ := fl_ne fk
  obtain ⟨f01, f02, f03, f04⟩ := fl_ne f0
  obtain ⟨f11, f12, f13, f14⟩ := fl_ne f1
  obtain ⟨f21, f22, f23, f24⟩ := fl_ne f2
  refine Wr_box fun w1 hB1 hx1 => ?_
  have hB1' : Has w1 w.heap.size (planV sm su sr) 49 := hB1
  have hS1 := hS.box (.ps 5) hx1 hB1'
  generalize w.heap.size = gp at hB1 hB1' hS1
  refine Wr_box fun w2 hB2 hx2 => ?_
  have hB2' : Has w2 w1.heap.size [.int .i64 (fr : Int), .int .i64 (to : Int)] 41 := hB2
  have hS2 := hS1.box (.ps 6) hx2 hB2'
  generalize w1.heap.size = gs at hB2 hB2' hS2
  obtain ⟨T2, hT2e⟩ : ∃ T2, T2 = (T.up (.ps 5) (Cel gp (planV sm su sr) 49)).up (.ps 6) (Cel gs [.int .i64 (fr : Int), .int .i64 (to : Int)] 41) := ⟨_, rfl⟩
  rw [← hT2e] at hS2
  have m2 : ∀ q, ¬ FlK q → T2 q = T q := fun q hq => by
    obtain ⟨a1, a2, _, _⟩ := fl_ne hq
    rw [hT2e, Ths.up_ne _ _ a2, Ths.up_ne _ _ a1]
  have p2 : T2 (.ps 5) = Cel gp (planV sm su sr) 49 := by rw [hT2e, Ths.up_ne _ _ (by simp), Ths.up_same]
  have s2 : T2 (.ps 6) = Cel gs [.int .i64 (fr : Int), .int .i64 (to : Int)] 41 := by rw [hT2e, Ths.up_same]
  have nbx : ∀ i, ¬ FlK (.bx i) := fun i => by unfold FlK; simp
  have hC2 : Cod T2 j a f k m b Q es clock := hC.next (fun i => m2 _ (nbx i))
  have k2 := (m2 _ fk).trans hk
  have hM2 := sh_matR hS2 k2
  refine Cl_mono (cwhole_ok (hC2.cel hS2) hM2.hdr hhl hLen hn1 hn2 hC.hf hC.hk1 hC.hm1 hC.hkm) ?_
  rintro _ w3 ⟨rfl, hx3⟩
  refine Cd_t ?_
  have hS3 := hS2.exx hx3
  refine Rd_hasN (x := ((fr : Int), (to : Int), ())) (hS3.has s2) (by kernel_rfl) rfl ?_
  refine Cl_gv (d := .one (.at (.int .i64))) (x := 0) (by have := mwithin_gv (w := w3) (n := n) h1; rw [if_pos h2] at this; exact this) fun w4 hx4 => ?_
  have hS4 := hS3.exx hx4
  unfold mC_Fill.j1
  refine Cd_f ?_
  have e1 : (⟨gp, 0, none⟩ : Addr).add 1 = ⟨gp, 1, none⟩ := rfl
  have e2 : (⟨gp, 0, none⟩ : Addr).add 2 = ⟨gp, 2, none⟩ := rfl
  refine Rd_hasN (x := ((sm, su, sr, ⟨none, 0, 0⟩, ()) : Ats P4)) (hS4.has p2) (by kernel_rfl) rfl ?_
  refine Cl_gv (d := .one (.at .bool)) (x := true) (fits_gv' hS4 hC2 (int_get hS4 ((m2 _ f0).trans t0)) (int_get hS4 ((m2 _ f1).trans t1)) (sh_matR hS4 ((m2 _ f2).trans t2)) hL hU hUl hD hLU) fun w5 hx5 => ?_
  refine Cd_f ?_
  have hS5 := hS4.exx hx5
  rw [e1]
  refine Rd_has (c := .sl) (x := su) (B := gp) (i := 1) (hS5.has p2) (by kernel_rfl) rfl ?_
  have hul := (int_get hS5 ((m2 _ f1).trans t1)).1
  have hml := (int_get hS5 ((m2 _ f0).trans t0)).1
  refine Wr_make (f := slV) (z := ⟨none, 0, 0⟩) tBB iS rfl U.length (by omega) (by omega) (by omega) (by omega) fun sU w6 hsU hB6 hx6 => ?_
  have hO6 : Own slV 24 w5.heap.size w6 sU (List.replicate U.length ⟨none, 0, 0⟩) := by rw [hsU]; exact own_of_has (by simp) (by omega) hB6 (Nat.le_refl _)
  have hS6 := hS5.newOwn (.rk 5) hx6 hO6
  have hLs : ∀ x ∈ L, x < hs.length := fun x hx => by rw [hhl]; exact hL.lt x hx
  have hUs : ∀ x ∈ U, x < hs.length := fun x hx => by rw [hhl]; exact hU.lt x hx
  refine Rd_has (c := .sl) (x := su) (B := gp) (i := 1) (hS6.has ((Ths.up_ne _ _ (by simp)).trans p2)) (by kernel_rfl) rfl ?_
  unfold mC_Fill.l1
  refine loopW_of (fun st w' => ∃ (i : Nat) (T' : Ths), st = (at0 a.cp, s, ⟨gp, 0, none⟩, ⟨gs, 0, none⟩, sU, su, ((su.len : Nat) : Int), (i : Int), ()) ∧ i ≤ U.length ∧ Sep W0 w' T' ∧ T' (.rk 5) = Owt slV 24 sU ((hdrs hs U).take i ++ (List.replicate U.length ⟨none, 0, 0⟩).drop i) ∧ ∀ q, q ≠ .rk 5 → T' q = T2 q) (fun st _ => ((U.length : Int) - st.2.2.2.2.2.2.2.1).toNat) ?_
    ⟨0, _, rfl, Nat.zero_le _, hS6, by rw [Ths.up_same]; simp, fun q h => Ths.up_ne _ _ h⟩
  rintro kk1 _ w7 ⟨i, T7, rfl, hi, hS7, u7, m7⟩ hk1'
  unfold mC_Fill.b1
  dsimp only at hk1' ⊢
  have hdl : ∀ A : List Nat, (hdrs hs A).length = A.length := fun A => by unfold hdrs; rw [List.length_map]
  refine Cd_dec (fun hlt => ?_) (fun hge => ?_)
  · obtain ⟨u, hui⟩ := atx (l := U) (i := i) (by omega)
    obtain ⟨h, hh⟩ := atx (l := hs) (i := u) (hUs u (List.mem_of_getElem? hui))
    refine rd_nat (int_get hS7 ((m7 _ f13).trans ((m2 _ f1).trans t1))) hui ?_
    refine rd_hdr (sh_matR hS7 ((m7 _ fk3).trans k2)).hdr hh ?_
    have hO7 := hS7.owt u7
    refine Wu_set (f := slV) (x := h) (i := i) hO7 (by rw [List.length_append, List.length_take, List.length_drop, hdl, List.length_replicate]; omega) tBB sS sS rfl rfl fun w8 hO8 hm8 => ?_
    have hS8 := hS7.grow u7 hO8 hm8 (fun b hb => .inl hb)
    rw [stepG (by rw [hdl, List.length_replicate]) (by rw [hdrs_at hui, List.getD_eq_getElem?_getD, hh]; rfl)] at hS8
    rw [wrap64 (by omega) (by omega), show (i : Int) + 1 = ((i + 1 : Nat) : Int) by omega]
    exact hk1' _ _ ⟨i + 1, _, rfl, by omega, hS8, Ths.up_same _ _ _, fun q h => by rw [Ths.up_ne _ _ h]; exact m7 q h⟩ (by dsimp only; omega)
  clear hk1'
  have hie : i = U.length := by omega
  rw [hie, List.take_of_length_le (by rw [hdl]; exact Nat.le_refl _), List.drop_of_length_le (by simp), List.append_nil] at u7
  have p7 : T7 (.ps 5) = Cel gp (planV sm su sr) 49 := (m7 _ (by simp)).trans p2
  refine Rd_has (c := .sl) (x := sm) (B := gp) (i := 0) (hS7.has p7) (by kernel_rfl) rfl ?_
  refine Wr_make (f := slV) (z := ⟨none, 0, 0⟩) tBB iS rfl L.length (by omega) (by omega) (by omega) (by omega) fun sL w8 hsL hB8 hx8 => ?_
  have hO8 : Own slV 24 w7.heap.size w8 sL (List.replicate L.length ⟨none, 0, 0⟩) := by rw [hsL]; exact own_of_has (by simp) (by omega) hB8 (Nat.le_refl _)
  have hS8 := hS7.newOwn (.rk 6) hx8 hO8
  refine Rd_has (c := .sl) (x := sm) (B := gp) (i := 0) (hS8.has ((Ths.up_ne _ _ (by simp)).trans p7)) (by kernel_rfl) rfl ?_
  unfold mC_Fill.l2
  refine loopW_of (fun st w' => ∃ (i : Nat) (T' : Ths), st = (at0 a.cp, s, ⟨gp, 0, none⟩, ⟨gs, 0, none⟩, sU, sL, sm, ((sm.len : Nat) : Int), (i : Int), ()) ∧ i ≤ L.length ∧ Sep W0 w' T' ∧ T' (.rk 6) = Owt slV 24 sL ((hdrs hs L).take i ++ (List.replicate L.length ⟨none, 0, 0⟩).drop i) ∧ ∀ q, q ≠ .rk 6 → T' q = T7 q) (fun st _ => ((L.length : Int) - st.2.2.2.2.2.2.2.2.1).toNat) ?_
    ⟨0, _, rfl, Nat.zero_le _, hS8, by rw [Ths.up_same]; simp, fun q h => Ths.up_ne _ _ h⟩
  rintro kk2 _ w9 ⟨i2, T9, rfl, hi2, hS9, l9, m9⟩ hk2'
  unfold mC_Fill.b2
  dsimp only at hk2' ⊢
  refine Cd_dec (fun hlt => ?_) (fun hge => ?_)
  · obtain ⟨u, hui⟩ := atx (l := L) (i := i2) (by omega)
    obtain ⟨h, hh⟩ := atx (l := hs) (i := u) (hLs u (List.mem_of_getElem? hui))
    refine rd_nat (int_get hS9 ((m9 _ f04).trans ((m7 _ f03).trans ((m2 _ f0).trans t0)))) hui ?_
    refine rd_hdr (sh_matR hS9 ((m9 _ fk4).trans ((m7 _ fk3).trans k2))).hdr hh ?_
    have hO9 := hS9.owt l9
    refine Wu_set (f := slV) (x := h) (i := i2) hO9 (by rw [List.length_append, List.length_take, List.length_drop, hdl, List.length_replicate]; omega) tBB sS sS rfl rfl fun w10 hO10 hm10 => ?_
    have hS10 := hS9.grow l9 hO10 hm10 (fun b hb => .inl hb)
    rw [stepG (by rw [hdl, List.length_replicate]) (by rw [hdrs_at hui, List.getD_eq_getElem?_getD, hh]; rfl)] at hS10
    rw [wrap64 (by omega) (by omega), show (i2 : Int) + 1 = ((i2 + 1 : Nat) : Int) by omega]
    exact hk2' _ _ ⟨i2 + 1, _, rfl, by omega, hS10, Ths.up_same _ _ _, fun q h => by rw [Ths.up_ne _ _ h]; exact m9 q h⟩ (by dsimp only; omega)
  clear hk2'
  have hie2 : i2 = L.length := by omega
  rw [hie2, List.take_of_length_le (by rw [hdl]; exact Nat.le_refl _), List.drop_of_length_le (by simp), List.append_nil] at l9
  have hd := Ex.drew w9
  have hS10 := hS9.exx hd
  generalize w9.drew = w10 at hS10
  have m9' : ∀ q, ¬ FlK q → T9 q = T q := fun q hq => by
    obtain ⟨_, _, a3, a4⟩ := fl_ne hq
    rw [m9 q a4, m7 q a3, m2 q hq]
  have hC9 : Cod T9 j a f k m b Q es clock := hC.next (fun i => m9' _ (nbx i))
  have p9 : T9 (.ps 5) = Cel gp (planV sm su sr) 49 := (m9 _ (by simp)).trans p7
  have s9 : T9 (.ps 6) = Cel gs [.int .i64 (fr : Int), .int .i64 (to : Int)] 41 := (m9 _ (by simp)).trans ((m7 _ (by simp)).trans s2)
  have u9 : T9 (.rk 5) = Owt slV 24 sU (hdrs hs U) := (m9 _ (by simp)).trans u7
  have k9 := (m9' _ fk).trans hk
  have r9 := (m9' _ f2).trans t2
  refine Held_of (fun w' => Has w' a.cp (codV a f k m) 78 ∧ Has w' gp (planV sm su sr) 49 ∧ Has w' gs [.int .i64 (fr : Int), .int .i64 (to : Int)] 41) ⟨hC9.cel hS10, hS10.has p9, hS10.has s9⟩ ?_
  refine Pu_nil (RdS_has (c := .ptr) (x := at0 a.sp) (B := a.cp) (i := 3) (fun w' h => h.1) (by kernel_rfl) rfl ?_)
  rw [e2]
  refine RdS_has (c := .sl) (x := sr) (B := gp) (i := 2) (fun w' h => h.2.1) (by kernel_rfl) rfl ?_
  refine RdS_hasN (x := ((fr : Int), (to : Int), ())) (fun w' h => h.2.2) (by kernel_rfl) rfl ?_
  have hMl : ∀ y ∈ L, y < M.length := fun y hy => by rw [hM.1]; exact hL.lt y hy
  have hLnd := hL.nodup
  let St : World → Mtx → Prop := fun w' E => Sep W0 w' (T9.up ks (ShT s hs (putR L M E))) ∧ E.length = L.length
  have hst : DsSt St (hdrs hs L) (fun w' => SetH w' a.sp b a.kb ∧ MatR w' sr hsr D ∧ MatR w' sU (hdrs hs U) (usedM M U) ∧ Rds slV w' sL (hdrs hs L)) :=
    { read := fun {w' E} h => by
        have hC' := hC9.next (T' := T9.up ks (ShT s hs (putR L M E))) (fun i => Ths.up_ne _ _ (fun e => hkb i e.symm))
        have hM' := sh_matR h.1 (Ths.up_same _ _ _)
        refine ⟨hC'.set h.1, sh_matR h.1 ((Ths.up_ne _ _ n2).trans r9), ⟨(h.1.owt ((Ths.up_ne _ _ (fun e => fk3 e.symm)).trans u9)).rds, by rw [hdl, usedM_len], fun i g r g1 g2 => ?_⟩, (h.1.owt ((Ths.up_ne _ _ (fun e => fk4 e.symm)).trans l9)).rds⟩
        obtain ⟨x, hx, hxg⟩ := hdrs_inv hUs g1
        rw [usedM_at hx] at g2
        have hxm := hU.lt x (List.mem_of_getElem? hx)
        refine hM'.row x g r hxg ?_
        rw [putR_out L M E (fun h' => hLU x h' (List.mem_of_getElem? hx)), ← Option.some.inj g2, List.getD_eq_getElem?_getD, List.getElem?_eq_getElem (by rw [hM.1]; exact hxm)]
        rfl
      len := fun h => by rw [hdl]; exact h.2
      own := fun {w' E i g r} h g1 g2 => by
        obtain ⟨x, hx, hxg⟩ := hdrs_inv hLs g1
        exact (sh_get h.1 (Ths.up_same _ _ _)).2.2 x g r hxg (by rw [putR_in L M E i h.2.symm hLnd hx (hMl x (List.mem_of_getElem? hx))]; exact g2)
      put := fun {w' E w'' i g r} h g1 ho mo => by
        obtain ⟨x, hx, hxg⟩ := hdrs_inv hLs g1
        have := sh_row h.1 (Ths.up_same _ _ _) hxg ho mo
        rw [Ths.up_up, putR_set h.2.symm hLnd hMl hx] at this
        exact ⟨this, by rw [List.length_set]; exact h.2⟩
      ex := fun h x => ⟨h.1.exx x, h.2⟩ }
  have h0 : St w10 (usedM M L) := ⟨by rw [putR_self hLnd hMl, ← k9, Ths.up_id]; exact hS10, usedM_len M L⟩
  have nd : ∀ q, q ≠ ks → ∃ G : Nat → Prop, (T9 q).h w10 G ∧ ∀ b, G b → Nd (hdrs hs L) b := by
    intro q hq
    obtain ⟨G, g1, g2⟩ := sep_nd 0 hS10 k9 hq
    refine ⟨G, g1, fun b hb i g hg hb' => ?_⟩
    obtain ⟨x, _, hxg⟩ := hdrs_inv hLs hg
    exact g2 b hb x g (by rw [List.drop_zero]; exact hxg) hb'
  obtain ⟨G1, g1, g1'⟩ := nd (.bx (4 * j + 1)) (fun e => hkb _ e.symm)
  rw [hC9.c1] at g1
  obtain ⟨G2, g2, g2'⟩ := nd q2 n2
  rw [r9] at g2
  have g2s : ShIn w10 G2 sr hsr D := g2
  obtain ⟨G3, g3, g3'⟩ := nd (.rk 5) (fun e => fk3 e.symm)
  rw [u9] at g3
  obtain ⟨Fk, hFk, _⟩ := hS10.get ks k9
  have hFk' : ShIn w10 Fk s hs M := hFk
  refine Cl_mono (apply_ok hst h0 (g1' _ g1.2.1) (g1' _ g1.2.2) (fun i h hh b hb => g2' b (g2s.apt i h hh b hb).2) (fun b hb => g3' b (g3.2 b hb)) (fun i h hh b hb i' g hg hb' => ?_) (by rw [usedM_len, usedM_len, hUl]; exact hD) (shp_used hM hU.lt).2 (shp_used hM hL.lt).2 (by rw [usedM_len]; omega) (by rw [usedM_len]; omega) (by rw [usedM_len]; omega) hn1 hn2 h1 h2) ?_
  · obtain ⟨x, hx, hxg⟩ := hdrs_inv hUs hh
    obtain ⟨y, hy, hyg⟩ := hdrs_inv hLs hg
    exact hFk'.dis x y h g (fun e => hLU y (List.mem_of_getElem? hy) (e ▸ List.mem_of_getElem? hx)) hxg hyg b hb hb'
  rintro _ w11 ⟨rfl, hS11, _⟩
  have hC11 := hC9.next (T' := T9.up ks (ShT s hs (putR L M (applyM fr to n D (usedM M U) (usedM M L))))) (fun i => Ths.up_ne _ _ (fun e => hkb i e.symm))
  refine ⟨⟨hC11.cel hS11, hS11.has ((Ths.up_ne _ _ (fun e => fk1 e.symm)).trans p9), hS11.has ((Ths.up_ne _ _ (fun e => fk2 e.symm)).trans s9)⟩, ?_⟩
  subst hRR
  exact ⟨0, rfl, rfl, _, hS11, Ths.up_same _ _ _, fun q h1 h2 => by rw [Ths.up_ne _ _ h1]; exact m9' q h2⟩
end Go.Proofs.YtbiilejgfihohaaGreat
namespace Go.Proofs.YtbiilejgfihohaaGreat
open Go Go.Cu Go.RowKit
theorem enc_spans {n k m c : Nat} {Q M : Mtx} (hQ : Shp Q m k) (hM : Shp M (k + m) n) (hc : c ≤ n) : encM 0 c n k Q (encM c n n k Q M) = encM 0 n n k Q M := by
  have h1 := shp_enc (fr := c) hc (Nat.le_refl n) hQ hM
  refine ext_rows (shp_enc (Nat.zero_le _) hc hQ h1) (shp_enc (Nat.zero_le _) (Nat.le_refl _) hQ hM) fun r hr t ht => ?_
  rw [ent_enc (Nat.zero_le _) hc hQ h1 hr, ent_enc (Nat.zero_le _) (Nat.le_refl _) hQ hM hr, ent_enc hc (Nat.le_refl _) hQ hM hr]
  by_cases h : r < k
  · rw [if_pos h, if_pos h, if_pos h]
  · rw [if_neg h, if_neg h, if_neg h, if_pos (show 0 ≤ t ∧ t < n from ⟨Nat.zero_le _, ht⟩)]
    by_cases h2 : t < c
    · rw [if_pos ⟨Nat.zero_le _, h2⟩]
      exact fsum_congr fun x hx => by rw [ent_enc hc (Nat.le_refl _) hQ hM (by omega), if_pos hx]
    · rw [if_neg (fun h3 => h2 h3.2), if_pos ⟨by omega, ht⟩]
def upS (fr to k : Nat) (Q M Fm : Mtx) : Mtx := M.take k ++ updM fr to Q M Fm (givenM Fm) (M.drop k)
theorem shp_upS {fr to n k m : Nat} {Q M Fm : Mtx} (h1 : fr ≤ to) (h2 : to ≤ n) (hQ : Shp Q m k) (hM : Shp M (k + m) n) (hl : Fm.length = k) (hn : ∀ x ∈ Fm, x.length = 0 ∨ x.length = n) : Shp (upS fr to k Q M Fm) (k + m) n :=
  shp_append (shp_takeM hM) (updM_shp (fr := fr) (to := to) (n := n) (k := k) (Q := Q) (M := M) (Fm := Fm) h1 h2 hQ.1 (fun x hx => hM.row (by omega)) (givenM Fm) (M.drop k) (givenM_ok hl hn) (shp_dropM hM))
theorem ent_upS {fr to n k m r t : Nat} {Q M Fm : Mtx} (h1 : fr ≤ to) (h2 : to ≤ n) (hQ : Shp Q m k) (hM : Shp M (k + m) n) (hl : Fm.length = k) (hn : ∀ x ∈ Fm, x.length = 0 ∨ x.length = n) (hr : r < k + m) (ht : t < n) :
    ent (upS fr to k Q M Fm) r t = if r < k then ent M r t else if fr ≤ t ∧ t < to then ent M r t ^^^ fsum k (fun c => if c ∈ givenM Fm then fmul (ent Q (r - k) c) (ent M c t ^^^ ent Fm c t) else 0#8) else ent M r t := by
  unfold upS
  rw [ent_append (shp_takeM hM)]
  by_cases h : r < k
  · rw [if_pos h, if_pos h, ent_take h]
  · rw [if_neg h, if_neg h, ent_upd h1 h2 hQ (fun x hx => hM.row (by omega)) (by omega) ht (givenM Fm) _ (givenM_nodup Fm) (givenM_ok hl hn) (shp_dropM hM), ent_drop, show k + (r - k) = r by omega]
theorem up_spans {n k m c : Nat} {Q M Fm : Mtx} (hQ : Shp Q m k) (hM : Shp M (k + m) n) (hl : Fm.length = k) (hn : ∀ x ∈ Fm, x.length = 0 ∨ x.length = n) (hc : c ≤ n) : upS c n k Q (upS 0 c k Q M Fm) Fm = upM n k Q M Fm := by
  have h1 := shp_upS (fr := 0) (Nat.zero_le _) hc hQ hM hl hn
  refine ext_rows (shp_upS hc (Nat.le_refl _) hQ h1 hl hn) (shp_up hQ hM hl hn) fun r hr t ht => ?_
  rw [ent_upS hc (Nat.le_refl _) hQ h1 hl hn hr ht, ent_up hQ hM hl hn hr ht, ent_upS (Nat.zero_le _) hc hQ hM hl hn hr ht]
  by_cases h : r < k
  · rw [if_pos h, if_pos h, if_pos h]
  · rw [if_neg h, if_neg h, if_neg h]
    by_cases h2 : t < c
    · rw [if_neg (by omega), if_pos ⟨Nat.zero_le _, h2⟩]
    · rw [if_pos ⟨by omega, ht⟩, if_neg (fun h3 => h2 h3.2)]
      congr 1
      refine fsum_congr fun x hx => ?_
      rw [ent_upS (Nat.zero_le _) hc hQ hM hl hn (by omega) ht, if_pos hx]
def filM (fr to n : Nat) (D : Mtx) (U L : List Nat) (A : Mtx) : Mtx := putR L A (applyM fr to n D (usedM A U) (usedM A L))
theorem fill_ent {fr to n k m : Nat} {Q A S D : Mtx} {L : List Nat} (h1 : fr ≤ to) (h2 : to ≤ n) (hQ : Shp Q m k) (hMds : Mds k m (ent (gM k Q))) (hS : Shp S (k + m) n) (hcol : ∀ t, t < n → Col k m Q S t) (hA : Shp A (k + m) n) (hL : NumL (k + m) L) (hlm : L.length ≤ m)
    (hD : decM k (gM k Q) ((lostL (k + m) L).take k) L = some D) (hAS : ∀ x t, x < k + m → x ∉ L → t < n → ent A x t = ent S x t) :
    Shp (filM fr to n D ((lostL (k + m) L).take k) L A) (k + m) n ∧ ∀ x t, x < k + m → t < n → ent (filM fr to n D ((lostL (k + m) L).take k) L A) x t = if x ∈ L ∧ fr ≤ t ∧ t < to then ent S x t else ent A x t := by
  have hll := lostL_length hL
  generalize hUe : (lostL (k + m) L).take k = U at *
  have hUl : U.length = k := by rw [← hUe, List.length_take]; omega
  have hUm : ∀ r ∈ U, r < k + m ∧ r ∉ L := fun r hr => mem_lostL.1 (List.mem_of_mem_take (by rw [hUe]; exact hr))
  have hg : Shp (gM k Q) (k + m) k := shp_append (shp_gen k k _) hQ
  obtain ⟨D', e1, e2, e3⟩ := dec_ok (want := L) hg hMds hUl (by rw [← hUe]; exact (lostL_nodup _ _).sublist (List.take_sublist _ _)) (fun r hr => (hUm r hr).1) hL.lt
  rw [e1] at hD
  cases hD
  have sU := shp_used hA (fun r hr => (hUm r hr).1)
  have sL := shp_used hA hL.lt
  rw [hUl] at sU
  have hap := shp_apply h1 h2 e2 sU sL
  have hLM : ∀ y ∈ L, y < A.length := fun y hy => by rw [hA.1]; exact hL.lt y hy
  have hlen : (filM fr to n D U L A).length = k + m := by unfold filM; rw [putR_len]; exact hA.1
  have hin : ∀ i x, L[i]? = some x → (filM fr to n D U L A)[x]? = (applyM fr to n D (usedM A U) (usedM A L))[i]? := fun i x hi => putR_in L A _ i hap.1.symm hL.nodup hi (hLM x (List.mem_of_getElem? hi))
  have hout : ∀ x, x ∉ L → (filM fr to n D U L A)[x]? = A[x]? := fun x hx => putR_out L A _ hx
  refine ⟨⟨hlen, fun row hrow => ?_⟩, fun x t hx ht => ?_⟩
  · obtain ⟨x, hx⟩ := List.mem_iff_getElem?.1 hrow
    by_cases hxl : x ∈ L
    · obtain ⟨i, hi⟩ := List.mem_iff_getElem?.1 hxl
      rw [hin i x hi] at hx
      exact hap.2 row (List.mem_of_getElem? hx)
    · rw [hout x hxl] at hx
      exact hA.2 row (List.mem_of_getElem? hx)
  · by_cases hxl : x ∈ L
    · obtain ⟨i, hi⟩ := List.mem_iff_getElem?.1 hxl
      have hil := (List.getElem?_eq_some_iff.1 hi).1
      have hge : ent (filM fr to n D U L A) x t = ent (applyM fr to n D (usedM A U) (usedM A L)) i t := by
        unfold ent
        rw [List.getD_eq_getElem?_getD (l := filM fr to n D U L A), List.getD_eq_getElem?_getD (l := applyM fr to n D (usedM A U) (usedM A L)), hin i x hi]
      rw [hge, ent_apply h1 h2 e2 sU sL hil]
      by_cases hsp : fr ≤ t ∧ t < to
      · rw [if_pos hsp, if_pos ⟨hxl, hsp⟩]
        have e4 := e3 (fun c => ent S c t) i hil
        rw [show L.getD i 0 = x from getD_get hi, ← col_gen hQ (hcol t ht) hx] at e4
        rw [← e4]
        refine fsum_congr fun c hc => ?_
        obtain ⟨u, hu⟩ := atx (l := U) (i := c) (by omega)
        obtain ⟨u1, u2⟩ := hUm u (List.mem_of_getElem? hu)
        rw [getD_get hu, ← col_gen hQ (hcol t ht) u1, ← hAS u t u1 u2 ht]
        congr 1
        unfold ent
        rw [getD_get (usedM_at hu)]
      · rw [if_neg hsp, if_neg (fun h => hsp h.2)]
        unfold ent
        rw [getD_get (usedM_at hi)]
    · rw [if_neg (fun h => hxl h.1)]
      unfold ent
      rw [List.getD_eq_getElem?_getD (l := filM fr to n D U L A), hout x hxl, ← List.getD_eq_getElem?_getD]
theorem agree_bit {a b n k m : Nat} {Q S : Mtx} {r0 : List F8} {x : F8} (hab : a ≤ b) (hb : b ≤ n) (hQ : Shp Q m k) (hMds : Mds k m (ent (gM k Q))) (hS : Shp S (k + m) n) (hcol : ∀ t, t < n → Col k m Q S t) (hm : 1 ≤ m) (hn : 1 ≤ n) (hr : S[0]? = some r0) (hx : r0[0]? = some x) :
    agreeM a b n Q ((S.set 0 (r0.set 0 (x ^^^ 1#8))).take k) ((S.set 0 (r0.set 0 (x ^^^ 1#8))).drop k) = decide (¬ (a = 0 ∧ 0 < b)) := by
  have hrl := hS.2 r0 (List.mem_of_getElem? hr)
  have hS' : Shp (S.set 0 (r0.set 0 (x ^^^ 1#8))) (k + m) n := hS.set (by rw [List.length_set]; exact hrl)
  have hent : ∀ r t, ent (S.set 0 (r0.set 0 (x ^^^ 1#8))) r t = if r = 0 ∧ t = 0 then x ^^^ 1#8 else ent S r t := by
    intro r t
    rw [ent_set hS (by omega)]
    by_cases h : r = 0
    · subst h
      rw [if_pos rfl, getD_set _ _ _ _ _ (by omega)]
      by_cases h2 : t = 0
      · rw [if_pos h2, if_pos ⟨rfl, h2⟩]
      · rw [if_neg h2, if_neg (fun h3 => h2 h3.2), ent_row hr]
    · rw [if_neg h, if_neg (fun h3 => h h3.1)]
  have h0 : ¬ Col k m Q (S.set 0 (r0.set 0 (x ^^^ 1#8))) 0 := by
    intro hc
    have := col_tell (B := [0]) hQ hMds (hcol 0 (by omega)) hc (by simp) (by simpa using hm) (by simp; omega) (fun r hr hB => by rw [hent, if_neg (fun h => hB (by simp [h.1]))]) 0 (by omega)
    rw [hent, if_pos ⟨rfl, rfl⟩, ent_row hr, getD_get hx] at this
    have h1 : x ^^^ x = x ^^^ (x ^^^ 1#8) := congrArg (x ^^^ ·) this
    rw [BitVec.xor_self, ← BitVec.xor_assoc, BitVec.xor_self, BitVec.zero_xor] at h1
    exact absurd h1 (by decide)
  have hne : ∀ t, t ≠ 0 → t < n → Col k m Q (S.set 0 (r0.set 0 (x ^^^ 1#8))) t := fun t h1 h2 => col_congr (fun r hr => by rw [hent, if_neg (fun h => h1 h.2)]) (hcol t h2)
  by_cases h : a = 0 ∧ 0 < b
  · rw [decide_eq_false (fun h' => h' h)]
    rw [Bool.eq_false_iff]
    intro ht
    exact h0 ((agree_iff hab hb hQ hS').1 ht 0 (by omega) h.2)
  · rw [decide_eq_true h]
    exact (agree_iff hab hb hQ hS').2 (fun t h1 h2 => hne t (by omega) (by omega))
end Go.Proofs.YtbiilejgfihohaaGreat
namespace Go.Proofs.YtbiilejgfihohaaGreat
open Go Go.Cu Go.RowKit
theorem span_new {w : World} {x y : Int} {K : Addr → World → Prop} (hk : ∀ w', Has w' w.heap.size [.int .i64 x, .int .i64 y] 41 → Ex w w' → K ⟨w.heap.size, 0, none⟩ w') :
    Wr Tryz.prog (Instr.alloc 41 true (.tuple #[])) (.one (.at .addr)) (fun (a : Addr) w1 => Wu Tryz.prog (Instr.storeAt 41 (.pointer (some a)) (.agg #[.int .i64 x, .int .i64 y])) (fun w2 => K a w2) w1) w := by
  refine Wr_alloc (z := .agg #[.int .i64 0, .int .i64 0]) (by kernel_rfl) fun w1 hB1 hx1 => ?_
  refine Wu_store (v := .agg #[.int .i64 x, .int .i64 y]) hB1 (by kernel_rfl) (by simp [Value.cells, Value.oneCell']) (Nat.le_refl 2) fun w2 hB2 hm2 => ?_
  exact hk w2 hB2 (hx1.into hm2 (fun i hi => by omega))
theorem plan_new {w : World} {x : Ats P4} {K : Addr → World → Prop} (hk : ∀ w', Has w' w.heap.size (encAts P4 x) 49 → Ex w w' → K ⟨w.heap.size, 0, none⟩ w') :
    Wr Tryz.prog (Instr.alloc 49 true (.tuple #[])) (.one (.at .addr)) (fun (a : Addr) w1 => Wu Tryz.prog (Instr.storeAt 49 (.pointer (some a)) (.agg (encAts P4 x).toArray)) (fun w2 => K a w2) w1) w := by
  refine alloc4 fun w1 hB1 hx1 => ?_
  refine sto4 (x := x) hB1 rfl fun w2 hB2 hm2 => ?_
  exact hk w2 hB2 (hx1.into hm2 (fun i hi => by omega))
theorem fresh_at {W0 w : World} {T : Ths} {kf kx : Ky} {k i : Nat} {s : Sl} {hs : List Sl} {M : Mtx} {rk : List F8} {K : Sl → World → Prop} (hne : kx ≠ kf) (hS : Sep W0 w T) (hk : T kx = ShT s hs M) (hi : i < k) (hk2 : k ≤ 256) (hrk : M[k]? = some rk) (hl : rk.length ≤ 1048576)
    (hK : ∀ sfr hsF w', Sep W0 w' (T.up kf (ShT sfr hsF ((List.replicate k ([] : List F8)).set i rk))) → K sfr w') :
    Wr Tryz.prog (Instr.makeSlice 30 (.int .i64 (k : Int)) (.int .i64 (k : Int))) (.one (.at .sl)) (fun (x22 : Sl) w23 =>
    Wr Tryz.prog (Instr.buildSlice 24 0 #[]) (.one (.at .sl)) (fun (x24 : Sl) w25 =>
    Pu Tryz.prog (Instr.indexAt 30 (.slice s.base s.len s.cap) (.int .i64 (k : Int))) (.one (.at .addr)) (fun (x26 : Addr) w27 =>
    Rd Tryz.prog (Instr.loadAt 24 (.pointer (some x26))) (.one (.at .sl)) (fun (x28 : Sl) w29 =>
    Wr Tryz.prog (Builtin.append_ #[24, 24] 24 #[(.slice x24.base x24.len x24.cap), (.slice x28.base x28.len x28.cap)]) (.one (.at .sl)) (fun (x30 : Sl) w31 =>
    Pu Tryz.prog (Instr.indexAt 30 (.slice x22.base x22.len x22.cap) (.int .i64 (i : Int))) (.one (.at .addr)) (fun (x32 : Addr) w33 =>
    Wu Tryz.prog (Instr.storeAt 24 (.pointer (some x32)) (.slice x30.base x30.len x30.cap)) (K x22) w33) w31) w29) w27) w25) w23) w := by
  refine Wr_make (f := slV) (z := ⟨none, 0, 0⟩) tBB iS rfl k (by omega) (by omega) rfl rfl fun sfr w12 hsfr hB12 hx12 => ?_
  have hO12 : Own slV 24 w.heap.size w12 sfr (List.replicate k ⟨none, 0, 0⟩) := by rw [hsfr]; exact own_of_has (by simp) (by omega) hB12 (Nat.le_refl _)
  have hS12 := sh_init (k := kf) hS hx12 hO12
  have k120 : (T.up kf (ShT sfr (List.replicate k ⟨none, 0, 0⟩) (List.replicate k []))) kx = ShT s hs M := (Ths.up_ne _ _ hne).trans hk
  refine Wr_lit (f := f8v) (e := 5) (base := w12.heap.size) [] (by kernel_rfl) (Nat.le_refl _) (by simp) fun s13 w13 ho13 hx13 _ => ?_
  have hMR13 := (sh_matR hS12 k120).ex hx13
  have hkl := (List.getElem?_eq_some_iff.1 hrk).1
  obtain ⟨hk', hhk⟩ := atx (l := hs) (i := k) (by rw [hMR13.len]; exact hkl)
  refine rd_hdr hMR13.hdr hhk ?_
  refine Wr_append (f := f8v) (l := []) (base := w12.heap.size) tB iB rfl ho13 (hMR13.row k hk' rk hhk hrk) (fun _ => rfl) (by simp; omega) (by simp; omega) hx13.size fun d w14 ho14 hm14 hin14 => ?_
  rw [List.nil_append] at ho14
  have hx14 : Ex w12 w14 := hx13.into hm14 (fun b hb => (ho13.base b hb).1)
  have hF12 := Ths.up_same T kf (ShT sfr (List.replicate k ⟨none, 0, 0⟩) (List.replicate k []))
  obtain ⟨q1, q2, _⟩ := sh_get hS12 hF12
  refine Wu_set (f := slV) (x := d) (i := i) (q1.ex hx14) (by rw [List.length_replicate]; omega) tBB sS sS rfl rfl fun w15 hO15 hm15 => ?_
  have hS15 := sh_new hS12 hF12 hx14 ho14 (by rw [List.length_replicate]; omega) hO15 hm15
  rw [Ths.up_up] at hS15
  exact hK sfr _ w15 hS15
theorem updS_ok {W0 w : World} {T : Ths} {j : Nat} {a : CodA} {f : Int} {k m b n fr to : Nat} {Q M Fm : Mtx} {es : List Tr.Ent} {clock : Int} {ks kf : Ky} {s sf : Sl} {hs hf : List Sl} (hS : Sep W0 w T) (hC : Cod T j a f k m b Q es clock) (hk : T ks = ShT s hs M) (hkb : ∀ i, ks ≠ .bx i)
    (hkf : T kf = ShT sf hf Fm) (hne : ks ≠ kf) (hks : ¬ UpK ks) (hkf' : ¬ UpK kf) (hM : Shp M (k + m) n) (hFl : Fm.length = k) (hFn : ∀ x ∈ Fm, x.length = 0 ∨ x.length = n) (hn1 : 1 ≤ n) (hn2 : n ≤ 1048576) (h1 : fr ≤ to) (h2 : to ≤ n) :
    Cl Tryz.prog 29 #[.pointer (at0 a.cp), .slice s.base s.len s.cap, .slice sf.base sf.len sf.cap, .agg #[.int .i64 (fr : Int), .int .i64 (to : Int)]] (.one (.at (.int .i64)))
      (fun x w' => x = 0 ∧ ∃ T', Sep W0 w' T' ∧ T' ks = ShT s hs (upS fr to k Q M Fm) ∧ ∀ q, q ≠ ks → ¬ UpK q → T' q = T q) w := by
  have hgl : givenL hf k = givenM Fm := by
    have := givenL_eq (sh_matR hS hkf)
    rwa [hFl] at this
  have := updSpan_ok hS hC hk hkb hkf hne hks hkf' hM hFl hFn hn1 hn2 h1 h2
  rw [hgl] at this
  exact this
def zerM (B : List Bool) (n : Nat) (M : Mtx) : Mtx := (List.range M.length).map (fun i => if B.getD i false then List.replicate n 0#8 else M.getD i [])
theorem zerM_at {B : List Bool} {n : Nat} {M : Mtx} {i : Nat} (hi : i < M.length) : (zerM B n M)[i]? = some (if B.getD i false then List.replicate n 0#8 else M.getD i []) := by unfold zerM; rw [List.getElem?_map, List.getElem?_range hi]; rfl
theorem zerM_len (B : List Bool) (n : Nat) (M : Mtx) : (zerM B n M).length = M.length := by unfold zerM; rw [List.length_map, List.length_range]
theorem zerM_shp {B : List Bool} {M : Mtx} {r n : Nat} (h : Shp M r n) : Shp (zerM B n M) r n := by
  refine ⟨(zerM_len _ _ _).trans h.1, fun x hx => ?_⟩
  obtain ⟨i, hi⟩ := List.mem_iff_getElem?.1 hx
  have hil : i < M.length := by have := (List.getElem?_eq_some_iff.1 hi).1; rwa [zerM_len] at this
  rw [zerM_at hil] at hi
  rw [← Option.some.inj hi]
  split
  · exact List.length_replicate
  · exact h.row (by rw [← h.1]; exact hil)
theorem ent_zer {B : List Bool} {M : Mtx} {r n x t : Nat} (h : Shp M r n) (hx : x < r) : ent (zerM B n M) x t = if B.getD x false = true then 0#8 else ent M x t := by
  rw [ent_row (zerM_at (by rw [h.1]; exact hx))]
  by_cases hb : B.getD x false = true
  · rw [if_pos hb, if_pos hb, List.getD_eq_getElem?_getD, List.getElem?_replicate]
    split <;> rfl
  · rw [if_neg hb, if_neg hb]; rfl
theorem bools_num (B : List Bool) (n : Nat) : NumL n ((List.range n).filter (fun r => B.getD r false)) := by
  have hp : ((List.range n).filter (fun r => B.getD r false)).Pairwise (· < ·) := List.Pairwise.sublist (List.filter_sublist (l := List.range n)) List.pairwise_lt_range
  refine ⟨fun x hx => List.mem_range.1 (List.mem_filter.1 hx).1, fun i x y h1 h2 => ?_⟩
  rw [List.pairwise_iff_getElem] at hp
  obtain ⟨a1, e1⟩ := List.getElem?_eq_some_iff.1 h1
  obtain ⟨a2, e2⟩ := List.getElem?_eq_some_iff.1 h2
  have := hp i (i + 1) a1 a2 (by omega)
  rw [e1, e2] at this
  exact this
theorem filt_succ {B : List Bool} {j : Nat} : (List.range (j + 1)).filter (fun r => B.getD r false) = (List.range j).filter (fun r => B.getD r false) ++ (if B.getD j false = true then [j] else []) := by
  rw [List.range_succ, List.filter_append]
  congr 1
  cases h : B.getD j false with
  | true => rw [if_pos rfl, List.filter_cons, if_pos h]; rfl
  | false => rw [if_neg (by simp), List.filter_cons, if_neg (by rw [h]; simp)]; rfl
theorem spans_end {W w29 : World} {T27 : Ths} {a : CodA} {f : Int} {k m b len c gl gh : Nat} {Q S : Mtx} {es : List Tr.Ent} {cl : Int} {s sa h0 : Sl} {hs ha : List Sl} {R : Ending → World → Prop} (hS29 : Sep W w29 T27) (hC27 : Cod T27 0 a f k m b Q es cl) (s27 : T27 (.mx 2 0) = ShT s hs S) (a27 : T27 (.mx 2 1) = ShT sa ha S)
    (lo27 : T27 (.mx 2 7) = Cel gl [.int .i64 0, .int .i64 (c : Int)] 41) (hi27 : T27 (.mx 2 8) = Cel gh [.int .i64 (c : Int), .int .i64 (len : Int)] 41) (hQ : Shp Q m k) (hMds : Mds k m (ent (gM k Q))) (hSs : Shp S (k + m) len) (hcol : ∀ t, t < len → Col k m Q S t)
    (hN1 : 1 ≤ len) (hN2 : len ≤ 60) (hcl : c ≤ len) (hh0 : hs[0]? = some h0) (k2 : 1 ≤ k ∧ k ≤ 20) (m2 : 1 ≤ m ∧ m ≤ 12) (hR : ∀ w', Mo (fun b => W.heap.size ≤ b) W w' → R (.returned (.bool true)) w') :
    q17McodeSpans.j6 R (c : Int) (at0 a.cp) s ⟨gl, 0, none⟩ ⟨gh, 0, none⟩ sa false w29 := by
  obtain ⟨k1, k2⟩ := k2
  obtain ⟨m1, m2⟩ := m2
  unfold q17McodeSpans.j6
  refine Cd_f ?_
  have hMR29 := sh_matR hS29 s27
  obtain ⟨r0, hr0, hr0l⟩ := row_at hSs (show 0 < k + m by omega)
  obtain ⟨y, hy⟩ := atx (l := r0) (i := 0) (by omega)
  refine rd_hdr (i := 0) hMR29.hdr hh0 ?_
  refine rd_ent (i := 0) (hMR29.row 0 h0 r0 hh0 hr0) hy ?_
  rw [show (1 : Int) = (((1#8 : F8).toNat : Nat) : Int) from rfl, bXor_f8]
  refine st_sh (i := 0) (j := 0) (x := y ^^^ 1#8) hS29 s27 hh0 hr0 (by omega) fun w30 hS30 hm30 => ?_
  have hS' : Shp (S.set 0 (r0.set 0 (y ^^^ 1#8))) (k + m) len := hSs.set (by rw [List.length_set]; exact hr0l)
  have hC30 := hC27.next (T' := T27.up (.mx 2 0) (ShT s hs (S.set 0 (r0.set 0 (y ^^^ 1#8))))) (fun i => Ths.up_ne _ _ (by simp))
  refine Rd_hasN (x := ((0 : Int), (c : Int), ())) (hS30.has ((Ths.up_ne _ _ (by simp)).trans lo27)) (by kernel_rfl) rfl ?_
  refine Cl_mono (verSpan_ok (ks := .mx 2 0) (fr := 0) hS30 hC30 (Ths.up_same _ _ _) (by simp) hS' hN1 (by omega) (Nat.zero_le _) hcl) ?_
  rintro _ w31 ⟨rfl, hx31⟩
  have hS31 := hS30.exx hx31
  refine Rd_hasN (x := ((c : Int), (len : Int), ())) (hS31.has ((Ths.up_ne _ _ (by simp)).trans hi27)) (by kernel_rfl) rfl ?_
  refine Cl_mono (verSpan_ok (ks := .mx 2 0) hS31 hC30 (Ths.up_same _ _ _) (by simp) hS' hN1 (by omega) hcl (Nat.le_refl _)) ?_
  rintro _ w32 ⟨rfl, hx32⟩
  have hS32 := hS31.exx hx32
  refine Cl_mono (verify_ok (ks := .mx 2 0) hS32 hC30 (Ths.up_same _ _ _) (by simp) hS' hN1 (by omega)) ?_
  rintro _ w33 ⟨rfl, hx33⟩
  have hS33 := (hS32.exx hx33).exx (Ex.drew w33)
  refine Held_of (fun _ => True) trivial ?_
  dsimp only
  have g1 := agree_bit (a := 0) (b := c) (Nat.zero_le _) hcl hQ hMds hSs hcol m1 hN1 hr0 hy
  have g2 := agree_bit (a := c) (b := len) hcl (Nat.le_refl _) hQ hMds hSs hcol m1 hN1 hr0 hy
  have g3 := agree_bit (a := 0) (b := len) (Nat.zero_le _) (Nat.le_refl _) hQ hMds hSs hcol m1 hN1 hr0 hy
  rw [g1, g2, g3]
  have e3 : (decide (¬ (0 = 0 ∧ 0 < len))) = false := decide_eq_false (fun h => h ⟨rfl, by omega⟩)
  have e1 : (decide (¬ (0 = 0 ∧ 0 < c)) == ((c : Int) == 0)) = true := by
    by_cases h : c = 0
    · subst h; rfl
    · have t1 : decide (¬ (0 = 0 ∧ 0 < c)) = false := by simp; omega
      have t2 : ((c : Int) == 0) = false := by simpa using h
      rw [t1, t2]; rfl
  have e2 : (decide (¬ (c = 0 ∧ 0 < len)) == decide ((c : Int) > 0)) = true := by
    by_cases h : c = 0
    · have t1 : decide (¬ (c = 0 ∧ 0 < len)) = false := by simp; omega
      have t2 : decide ((c : Int) > 0) = false := decide_eq_false (by omega)
      rw [t1, t2]; rfl
    · have t1 : decide (¬ (c = 0 ∧ 0 < len)) = true := decide_eq_true (fun h' => h h'.1)
      have t2 : decide ((c : Int) > 0) = true := decide_eq_true (by omega)
      rw [t1, t2]; rfl
  rw [e1, e2, e3]
  refine Cd_t (Cd_t (Cd_t (Cd_t (Cd_t (Cd_t ?_)))))
  have mA := sh_matR hS33 (Ths.up_same T27 (.mx 2 0) _)
  have mB := sh_matR hS33 ((Ths.up_ne _ _ (by simp)).trans a27)
  have hdr : (S.set 0 (r0.set 0 (y ^^^ 1#8))).drop 1 = S.drop 1 := by
    refine List.ext_getElem? fun i => ?_
    rw [List.getElem?_drop, List.getElem?_drop, List.getElem?_set_ne (by omega)]
  have l1 := mA.hdr.1
  have l2 := mA.len
  have l3 := mB.hdr.1
  have l4 := mB.len
  have l5 := hSs.1
  have l6 := hS'.1
  have l7 := mA.hdr.2.1
  have l8 := mB.hdr.2.1
  have hA1' : (S.take 1).length = 1 := by rw [List.length_take]; omega
  have mA' : MatR w33.drew s hs ((S.set 0 (r0.set 0 (y ^^^ 1#8))).take 1 ++ S.drop 1) := by rw [← hdr, List.take_append_drop]; exact mA
  have mB' : MatR w33.drew sa ha (S.take 1 ++ S.drop 1) := by rw [List.take_append_drop]; exact mB
  refine Pu_cut 1 s.len tBB sS (.inr ⟨_, rfl⟩) (.inl ⟨rfl, rfl⟩) (by omega) (by omega) ?_
  refine Pu_cut 1 sa.len tBB sS (.inr ⟨_, rfl⟩) (.inl ⟨rfl, rfl⟩) (by omega) (by omega) ?_
  refine Cl_gv (d := .one (.at .bool)) (x := true) (by have := alike_gv (matR_drop mA' (k := 1) (by rw [List.length_take]; omega)) (matR_drop mB' hA1') (by rw [List.length_drop]; omega) (fun r hr => by rw [hSs.2 r (List.mem_of_mem_drop hr)]; omega); rw [decide_eq_true rfl] at this; exact this) fun w34 hx34 => ⟨trivial, ?_⟩
  exact hR _ (hS33.exx hx34).mo
end Go.Proofs.YtbiilejgfihohaaGreat
namespace Go.Proofs.YtbiilejgfihohaaGreat
open Go Go.Cu Go.RowKit
theorem spans_law (n : CodeI) (hn : Code64 n) (W : World) (sd sp : Sl) (atV : Int) (data : List F8) (P : List Int) (hd : Rds f8v W sd data) (hp : Rds i64v W sp P) (hP : ∀ x ∈ P, I64 x) (hat : I64 atV) (hdl : data.length ≤ 140737488355328) (hpl : P.length ≤ 140737488355328) :
    Gv Tryz.prog 8 #[.agg #[.int .i64 n.1, .int .i64 n.2.1, .int .i64 n.2.2.1, .int .i64 n.2.2.2.1], .slice sd.base sd.len sd.cap, .slice sp.base sp.len sp.cap, .int .i64 atV] (.bool true) W := by
  refine q17McodeSpans.run _ n sd sp atV W ?_
  generalize hRR : (fun (e : Ending) (w' : World) => e = .returned (.bool true) ∧ Ex W w') = R
  unfold q17McodeSpans.M
  refine Wr_box fun w1 hB hx1 => ?_
  refine Rd_hasN (x := n) hB (by kernel_rfl) rfl ?_
  have hS1 := (Sep.init W).exx hx1
  refine open_ok 0 (by omega) hS1 hn fun a T2 Q w2 hS2 hC2 hT2 => ?_
  refine Cd_f (Pu_codnil ?_)
  unfold q17McodeSpans.j1
  refine Cd_f ?_
  obtain ⟨k1, k2, _⟩ := cK_ok n
  obtain ⟨m1, m2, _⟩ := cM_ok n
  generalize hk : cK n = k at *
  generalize hm : cM n = m at *
  generalize hf : cF n = f at *
  generalize hb : cB n = b at *
  dsimp only
  obtain ⟨hN1, hN2⟩ := cutN_ok (len := data.length) (k := k) (most := 60) (by omega)
  refine Cl_mono (cut_ok (.mx 2 0) (m := m) (most := 60) hS2 (fun w' T' h' _ => h'.old hd) k1 (by omega) (by omega) (by omega) hdl) ?_
  rintro s w3 ⟨hs, hS3⟩
  have hM0 : Shp (cutM' data k m 60) (k + m) (cutN data.length k 60) := shp_gen _ _ _
  generalize cutM' data k m 60 = M0 at hS3 hM0
  generalize cutN data.length k 60 = len at hN1 hN2 hM0
  obtain ⟨hQ, hMds⟩ := hC2.shp
  have row16 : ∀ {M : Mtx}, Shp M (k + m) len → M.length ≤ 65536 ∧ ∀ r ∈ M, r.length ≤ 1048576 := fun h => ⟨by rw [h.1]; omega, fun r hr => by rw [h.2 r hr]; omega⟩
  have hMR3 := sh_matR hS3 (Ths.up_same _ _ _)
  obtain ⟨h0, hh0⟩ := atx (l := hs) (i := 0) (by rw [hMR3.len, hM0.1]; omega)
  have hh0l := hMR3.lenS hM0.2 h0 (List.mem_of_getElem? hh0)
  refine rd_hdr (i := 0) hMR3.hdr hh0 ?_
  rw [hh0l]
  obtain ⟨hat1, hat2⟩ := hat
  refine Cl_gv (d := .one (.at (.int .i64))) (x := intoI atV 0 (len : Int)) (into_gv (by omega) (by omega) (by omega) hat1 hat2) fun w4 hx4 => ?_
  have hcr := into_range (n := atV) (show (0 : Int) ≤ (len : Int) by omega)
  obtain ⟨c, hc⟩ : ∃ c : Nat, intoI atV 0 (len : Int) = (c : Int) := ⟨(intoI atV 0 (len : Int)).toNat, by omega⟩
  rw [hc] at hcr ⊢
  have hcl : c ≤ len := by omega
  have hS4 := hS3.exx hx4
  refine span_new fun w5 hB5 hx5 => ?_
  have hS5 := hS4.box (.mx 2 7) hx5 hB5
  generalize w4.heap.size = gl at hB5 hS5 ⊢
  refine span_new fun w6 hB6 hx6 => ?_
  have hS6 := hS5.box (.mx 2 8) hx6 hB6
  generalize w5.heap.size = gh at hB6 hS6 ⊢
  obtain ⟨T6, hT6e⟩ : ∃ T6, T6 = ((T2.up (.mx 2 0) (ShT s hs M0)).up (.mx 2 7) (Cel gl [.int .i64 0, .int .i64 (c : Int)] 41)).up (.mx 2 8) (Cel gh [.int .i64 (c : Int), .int .i64 (len : Int)] 41) := ⟨_, rfl⟩
  rw [← hT6e] at hS6
  have s6 : T6 (.mx 2 0) = ShT s hs M0 := by rw [hT6e, Ths.up_ne _ _ (by simp), Ths.up_ne _ _ (by simp), Ths.up_same]
  have lo6 : T6 (.mx 2 7) = Cel gl [.int .i64 0, .int .i64 (c : Int)] 41 := by rw [hT6e, Ths.up_ne _ _ (by simp), Ths.up_same]
  have hi6 : T6 (.mx 2 8) = Cel gh [.int .i64 (c : Int), .int .i64 (len : Int)] 41 := by rw [hT6e, Ths.up_same]
  refine Cl_mono (copied_ok (.mx 2 1) hS6 (fun w' T' h' hT' => sh_matR h' ((hT' _ (by simp)).trans s6)) (row16 hM0).1 (row16 hM0).2) ?_
  rintro sa w7 ⟨hsa, hS7⟩
  obtain ⟨rk, hrk, hrkl⟩ := row_at hM0 (show k < k + m by omega)
  rw [wrap64 (x := (k : Int) - 1) (by omega) (by omega), show (k : Int) - 1 = ((k - 1 : Nat) : Int) by omega]
  refine fresh_at (kf := .mx 2 2) (kx := .mx 2 0) (i := k - 1) (by simp) hS7 ((Ths.up_ne _ _ (by simp)).trans s6) (by omega) (by omega) hrk (by omega) fun sfr hsF w8 hS8 => ?_
  obtain ⟨Fm, hFmE⟩ : ∃ Fm, Fm = (List.replicate k ([] : List F8)).set (k - 1) rk := ⟨_, rfl⟩
  have hFl : Fm.length = k := by rw [hFmE, List.length_set, List.length_replicate]
  have hFn : ∀ x ∈ Fm, x.length = 0 ∨ x.length = len := by
    intro x hx
    rw [hFmE] at hx
    rcases List.mem_or_eq_of_mem_set hx with h' | rfl
    · rw [(List.mem_replicate.1 h').2]; exact .inl rfl
    · exact .inr hrkl
  rw [← hFmE] at hS8
  clear hFmE
  obtain ⟨T8, hT8e⟩ : ∃ T8, T8 = (T6.up (.mx 2 1) (ShT sa hsa M0)).up (.mx 2 2) (ShT sfr hsF Fm) := ⟨_, rfl⟩
  rw [← hT8e] at hS8
  have s8 : T8 (.mx 2 0) = ShT s hs M0 := by rw [hT8e, Ths.up_ne _ _ (by simp), Ths.up_ne _ _ (by simp)]; exact s6
  refine Cl_mono (copied_ok (.mx 2 3) hS8 (fun w' T' h' hT' => sh_matR h' ((hT' _ (by simp)).trans s8)) (row16 hM0).1 (row16 hM0).2) ?_
  rintro su w9 ⟨hsu, hS9⟩
  refine Cl_mono (copied_ok (.mx 2 4) hS9 (fun w' T' h' hT' => sh_matR h' ((hT' _ (by simp)).trans ((Ths.up_ne _ _ (by simp)).trans s8))) (row16 hM0).1 (row16 hM0).2) ?_
  rintro sv w10 ⟨hsv, hS10⟩
  obtain ⟨T10, hT10e⟩ : ∃ T10, T10 = (T8.up (.mx 2 3) (ShT su hsu M0)).up (.mx 2 4) (ShT sv hsv M0) := ⟨_, rfl⟩
  rw [← hT10e] at hS10
  have s10 : T10 (.mx 2 0) = ShT s hs M0 := by rw [hT10e, Ths.up_ne _ _ (by simp), Ths.up_ne _ _ (by simp)]; exact s8
  have a10 : T10 (.mx 2 1) = ShT sa hsa M0 := by rw [hT10e, Ths.up_ne _ _ (by simp), Ths.up_ne _ _ (by simp), hT8e, Ths.up_ne _ _ (by simp), Ths.up_same]
  have F10 : T10 (.mx 2 2) = ShT sfr hsF Fm := by rw [hT10e, Ths.up_ne _ _ (by simp), Ths.up_ne _ _ (by simp), hT8e, Ths.up_same]
  have u10 : T10 (.mx 2 3) = ShT su hsu M0 := by rw [hT10e, Ths.up_ne _ _ (by simp), Ths.up_same]
  have v10 : T10 (.mx 2 4) = ShT sv hsv M0 := by rw [hT10e, Ths.up_same]
  have lo10 : T10 (.mx 2 7) = Cel gl [.int .i64 0, .int .i64 (c : Int)] 41 := by rw [hT10e, Ths.up_ne _ _ (by simp), Ths.up_ne _ _ (by simp), hT8e, Ths.up_ne _ _ (by simp), Ths.up_ne _ _ (by simp)]; exact lo6
  have hi10 : T10 (.mx 2 8) = Cel gh [.int .i64 (c : Int), .int .i64 (len : Int)] 41 := by rw [hT10e, Ths.up_ne _ _ (by simp), Ths.up_ne _ _ (by simp), hT8e, Ths.up_ne _ _ (by simp), Ths.up_ne _ _ (by simp)]; exact hi6
  have hC10 : Cod T10 0 a f k m b Q [] 0 := hC2.next (fun i => by rw [hT10e, Ths.up_ne _ _ (by simp), Ths.up_ne _ _ (by simp), hT8e, Ths.up_ne _ _ (by simp), Ths.up_ne _ _ (by simp), hT6e, Ths.up_ne _ _ (by simp), Ths.up_ne _ _ (by simp), Ths.up_ne _ _ (by simp)])
  refine Cl_mono (encode_ok hS10 hC10 s10 (by simp) hM0 hN1 (by omega)) ?_
  rintro _ w11 ⟨rfl, hS11⟩
  refine Cd_f ?_
  have hSs := shp_enc (fr := 0) (Nat.zero_le _) (Nat.le_refl len) hQ hM0
  have hcol : ∀ t, t < len → Col k m Q (encM 0 len len k Q M0) t := fun t ht => col_enc (Nat.zero_le _) (Nat.le_refl _) hQ hM0 (Nat.zero_le _) ht
  refine Rd_hasN (x := ((c : Int), (len : Int), ())) (hS11.has ((Ths.up_ne _ _ (by simp)).trans hi10)) (by kernel_rfl) rfl ?_
  have hC11 := hC10.next (T' := T10.up (.mx 2 0) (ShT s hs (encM 0 len len k Q M0))) (fun i => Ths.up_ne _ _ (by simp))
  refine Cl_mono (encSpan_ok (ks := .mx 2 1) hS11 hC11 ((Ths.up_ne _ _ (by simp)).trans a10) (by simp) hM0 hN1 (by omega) hcl (Nat.le_refl _)) ?_
  rintro _ w12 ⟨rfl, hS12⟩
  refine Cd_f ?_
  have hA1 := shp_enc (fr := c) hcl (Nat.le_refl len) hQ hM0
  refine Rd_hasN (x := ((0 : Int), (c : Int), ())) (hS12.has ((Ths.up_ne _ _ (by simp)).trans ((Ths.up_ne _ _ (by simp)).trans lo10))) (by kernel_rfl) rfl ?_
  have hC12 := hC11.next (T' := (T10.up (.mx 2 0) (ShT s hs (encM 0 len len k Q M0))).up (.mx 2 1) (ShT sa hsa (encM c len len k Q M0))) (fun i => Ths.up_ne _ _ (by simp))
  refine Cl_mono (encSpan_ok (ks := .mx 2 1) (fr := 0) hS12 hC12 (Ths.up_same _ _ _) (by simp) hA1 hN1 (by omega) (Nat.zero_le _) hcl) ?_
  rintro _ w13 ⟨rfl, hS13⟩
  refine Cd_f ?_
  rw [enc_spans hQ hM0 hcl, Ths.up_up] at hS13
  generalize encM 0 len len k Q M0 = S at hS13 hSs hcol
  obtain ⟨T13, hT13e⟩ : ∃ T13, T13 = (T10.up (.mx 2 0) (ShT s hs S)).up (.mx 2 1) (ShT sa hsa S) := ⟨_, rfl⟩
  rw [← hT13e] at hS13
  have s13 : T13 (.mx 2 0) = ShT s hs S := by rw [hT13e, Ths.up_ne _ _ (by simp), Ths.up_same]
  have a13 : T13 (.mx 2 1) = ShT sa hsa S := by rw [hT13e, Ths.up_same]
  have n13 : ∀ q, q ≠ .mx 2 0 → q ≠ .mx 2 1 → T13 q = T10 q := fun q c1 c2 => by rw [hT13e, Ths.up_ne _ _ c2, Ths.up_ne _ _ c1]
  have hC13 : Cod T13 0 a f k m b Q [] 0 := hC10.next (fun i => n13 _ (by simp) (by simp))
  have like : ∀ {w : World} {T' : Ths} {k1 k2 : Ky} {s1 s2 : Sl} {h1 h2 : List Sl} {M : Mtx} {K : Bool → World → Prop}, Sep W w T' → T' k1 = ShT s1 h1 M → T' k2 = ShT s2 h2 M → M.length ≤ 65536 → (∀ r ∈ M, r.length ≤ 1048576) → (∀ w', Sep W w' T' → K true w') →
      Cl Tryz.prog 20 #[.slice s1.base s1.len s1.cap, .slice s2.base s2.len s2.cap] (.one (.at .bool)) K w := by
    intro w T' k1 k2 s1 s2 h1 h2 M K c1 c2 c3 c4 c5 c6
    refine Cl_gv (d := .one (.at .bool)) (x := true) (by have := alike_gv (sh_matR c1 c2) (sh_matR c1 c3) c4 c5; rw [decide_eq_true rfl] at this; exact this) fun w' hx' => c6 w' (c1.exx hx')
  refine like hS13 a13 s13 (row16 hSs).1 (row16 hSs).2 fun w14 hS14 => ?_
  unfold q17McodeSpans.j2
  refine Cd_f ?_
  have nup : ∀ i, ¬ UpK (.mx 2 i) := fun i => by unfold UpK; simp
  have bup : ∀ i, ¬ UpK (.bx i) := fun i => by unfold UpK; simp
  refine Cl_mono (upd_ok (ks := .mx 2 3) (kf := .mx 2 2) hS14 hC13 ((n13 _ (by simp) (by simp)).trans u10) (by simp) ((n13 _ (by simp) (by simp)).trans F10) (by simp) (nup 3) (nup 2) hM0 hFl hFn hN1 (by omega)) ?_
  rintro _ w15 ⟨rfl, T15, hS15, u15, n15⟩
  refine Cd_f ?_
  have hC15 : Cod T15 0 a f k m b Q [] 0 := hC13.next (fun i => n15 _ (by simp) (bup i))
  have lo15 : T15 (.mx 2 7) = _ := (n15 _ (by simp) (nup 7)).trans ((n13 _ (by simp) (by simp)).trans lo10)
  have hi15 : T15 (.mx 2 8) = _ := (n15 _ (by simp) (nup 8)).trans ((n13 _ (by simp) (by simp)).trans hi10)
  have v15 : T15 (.mx 2 4) = _ := (n15 _ (by simp) (nup 4)).trans ((n13 _ (by simp) (by simp)).trans v10)
  have F15 : T15 (.mx 2 2) = _ := (n15 _ (by simp) (nup 2)).trans ((n13 _ (by simp) (by simp)).trans F10)
  refine Rd_hasN (x := ((0 : Int), (c : Int), ())) (hS15.has lo15) (by kernel_rfl) rfl ?_
  refine Cl_mono (updS_ok (ks := .mx 2 4) (kf := .mx 2 2) (fr := 0) hS15 hC15 v15 (by simp) F15 (by simp) (nup 4) (nup 2) hM0 hFl hFn hN1 (by omega) (Nat.zero_le _) hcl) ?_
  rintro _ w16 ⟨rfl, T16, hS16, v16, n16⟩
  refine Cd_f ?_
  have hC16 : Cod T16 0 a f k m b Q [] 0 := hC15.next (fun i => n16 _ (by simp) (bup i))
  refine Rd_hasN (x := ((c : Int), (len : Int), ())) (hS16.has ((n16 _ (by simp) (nup 8)).trans hi15)) (by kernel_rfl) rfl ?_
  have hV1 := shp_upS (fr := 0) (Nat.zero_le _) hcl hQ hM0 hFl hFn
  refine Cl_mono (updS_ok (ks := .mx 2 4) (kf := .mx 2 2) hS16 hC16 v16 (by simp) ((n16 _ (by simp) (nup 2)).trans F15) (by simp) (nup 4) (nup 2) hV1 hFl hFn hN1 (by omega) hcl (Nat.le_refl _)) ?_
  rintro _ w17 ⟨rfl, T17, hS17, v17, n17⟩
  refine Cd_f ?_
  rw [up_spans hQ hM0 hFl hFn hcl] at v17
  have hU := shp_up hQ hM0 hFl hFn
  have m17 : ∀ q, q ≠ .mx 2 3 → q ≠ .mx 2 4 → ¬ UpK q → T17 q = T13 q := fun q c1 c2 c3 => (n17 q c2 c3).trans ((n16 q c2 c3).trans (n15 q c1 c3))
  have u17 : T17 (.mx 2 3) = _ := (n17 _ (by simp) (nup 3)).trans ((n16 _ (by simp) (nup 3)).trans u15)
  refine like hS17 u17 v17 (row16 hU).1 (row16 hU).2 fun w18 hS18 => ?_
  unfold q17McodeSpans.j3
  refine Cd_f ?_
  have hC17 : Cod T17 0 a f k m b Q [] 0 := hC13.next (fun i => m17 _ (by simp) (by simp) (bup i))
  have hpl' := hp.1
  refine Cl_gv (d := .one (.at (.int .i64))) (x := intoI ((sp.len : Nat) : Int) 1 (m : Int)) (into_gv (by omega) (by omega) (by omega) (by omega) (by omega)) fun w19 hx19 => ?_
  have hcr2 := into_range (n := ((sp.len : Nat) : Int)) (show (1 : Int) ≤ (m : Int) by omega)
  obtain ⟨cc, hcc⟩ : ∃ c : Nat, intoI ((sp.len : Nat) : Int) 1 (m : Int) = (c : Int) := ⟨(intoI ((sp.len : Nat) : Int) 1 (m : Int)).toNat, by omega⟩
  rw [hcc] at hcr2 ⊢
  rw [wrap64 (x := (k : Int) + (m : Int)) (by omega) (by omega), show (k : Int) + (m : Int) = ((k + m : Nat) : Int) by omega]
  refine Cl_mono (pick_sep_ok (.mx 2 5) (hS18.exx hx19) (fun w' T' h' _ => h'.old hp) hP (by omega) (by omega) (by omega)) ?_
  rintro so w20 hS20
  obtain ⟨hBl, hBt⟩ := pickB_ok P (n := k + m) (by omega) cc (by omega)
  generalize pickB (k + m) P cc = B at hS20 hBl hBt
  have hS21 := hS20.new (.mx 2 6) (t := Owt natV 3 ⟨none, 0, 0⟩ []) (G := fun _ => False) (Ex.refl _) ⟨Own.nil _ _ _ _, fun b ⟨_, h, _⟩ => by cases h⟩ (fun b hb => hb.elim)
  obtain ⟨T21, hT21e⟩ : ∃ T21, T21 = (T17.up (.mx 2 5) (Owt bV 4 so B)).up (.mx 2 6) (Owt natV 3 ⟨none, 0, 0⟩ []) := ⟨_, rfl⟩
  rw [← hT21e] at hS21
  have n21 : ∀ q, q ≠ .mx 2 5 → q ≠ .mx 2 6 → T21 q = T17 q := fun q c1 c2 => by rw [hT21e, Ths.up_ne _ _ c2, Ths.up_ne _ _ c1]
  have o21 : T21 (.mx 2 5) = Owt bV 4 so B := by rw [hT21e, Ths.up_ne _ _ (by simp), Ths.up_same]
  have a21 : T21 (.mx 2 1) = ShT sa hsa S := (n21 _ (by simp) (by simp)).trans ((m17 _ (by simp) (by simp) (nup 1)).trans a13)
  have hzl := zerM_len B len S
  unfold q17McodeSpans.l1
  refine loopW_of (fun st w' => ∃ (i : Nat) (sm : Sl) (ha : List Sl) (T' : Ths), st = ((c : Int), at0 a.cp, (k : Int), (m : Int), s, (len : Int), ⟨gl, 0, none⟩, ⟨gh, 0, none⟩, sa, so, sm, (i : Int), ()) ∧ i ≤ k + m ∧ Sep W w' T' ∧ T' (.mx 2 1) = ShT sa ha ((zerM B len S).take i ++ S.drop i) ∧ T' (.mx 2 6) = Owt natV 3 sm ((List.range i).filter (fun r => B.getD r false)) ∧
      ∀ q, q ≠ .mx 2 1 → q ≠ .mx 2 6 → T' q = T21 q) (fun st _ => (((k + m : Nat) : Int) - st.2.2.2.2.2.2.2.2.2.2.2.1).toNat) ?_
    ⟨0, _, hsa, T21, rfl, Nat.zero_le _, hS21, by simpa using a21, by rw [hT21e, Ths.up_same]; rfl, fun _ _ _ => rfl⟩
  rintro q1 _ w22 ⟨i, sm, ha, T22, rfl, hi, hS22, a22, l22, n22⟩ hq1
  unfold q17McodeSpans.b1
  dsimp only at hq1 ⊢
  rw [wrap64 (x := (k : Int) + (m : Int)) (by omega) (by omega)]
  refine Cd_dec (fun hlt2 => ?_) (fun hge2 => ?_)
  · have hik : i < k + m := by omega
    have hiM : i < S.length := by rw [hSs.1]; exact hik
    obtain ⟨bb, hbb⟩ := atx (l := B) (i := i) (by omega)
    have hbD : B.getD i false = bb := getD_get hbb
    have hO22 := hS22.owt ((n22 (.mx 2 5) (by simp) (by simp)).trans o21)
    refine rd_bool hO22.rds hbb ?_
    have next : ∀ {w' : World} {sm : Sl} {ha : List Sl} {T' : Ths}, Sep W w' T' → T' (.mx 2 1) = ShT sa ha ((zerM B len S).take (i + 1) ++ S.drop (i + 1)) → T' (.mx 2 6) = Owt natV 3 sm ((List.range (i + 1)).filter (fun r => B.getD r false)) → (∀ q, q ≠ .mx 2 1 → q ≠ .mx 2 6 → T' q = T21 q) →
        q17McodeSpans.j4 R q1 (c : Int) (at0 a.cp) (k : Int) (m : Int) s (len : Int) ⟨gl, 0, none⟩ ⟨gh, 0, none⟩ sa so sm (i : Int) w' := by
      intro w' sm ha T' c1 c2 c3 c4
      unfold q17McodeSpans.j4
      rw [wrap64 (x := (i : Int) + 1) (by omega) (by omega), show (i : Int) + 1 = ((i + 1 : Nat) : Int) by omega]
      exact hq1 _ _ ⟨i + 1, sm, ha, T', rfl, by omega, c1, c2, c3, c4⟩ (by dsimp only; omega)
    have hatz := zerM_at (B := B) (n := len) (M := S) hiM
    have hfl : ((List.range i).filter (fun r => B.getD r false)).length ≤ i := by
      have := List.length_filter_le (fun r => B.getD r false) (List.range i)
      rwa [List.length_range] at this
    refine Cd_of (fun hbt => ?_) (fun hbf => ?_)
    · have hbD' := hbD.trans hbt
      rw [if_pos hbD'] at hatz
      refine Wr_lit (f := natV) (e := 3) (base := w22.heap.size) [i] (by kernel_rfl) (Nat.le_refl _) (by simp) fun s23 w23 ho23 hx23 _ => ?_
      have hS23 := hS22.exx hx23
      refine Wr_append (f := natV) (base := 0) tI iI rfl (hS23.owt l22) ho23.rds (fun _ => rfl) (by rw [List.length_singleton]; omega) (by rw [List.length_singleton]; omega) (Nat.zero_le _) fun sm' w24 ho24 hm24 hin24 => ?_
      have hS24 := hS23.grow l22 ho24 hm24 hin24
      refine Wr_make (f := f8v) (z := 0#8) tB iB rfl len (by omega) (by omega) rfl rfl fun sz w25 hsz hB25 hx25 => ?_
      have hO25 : Own f8v 5 w24.heap.size w25 sz (List.replicate len 0#8) := by rw [hsz]; exact own_of_has (by simp) (by omega) hB25 (Nat.le_refl _)
      have a24 : (T22.up (.mx 2 6) (Owt natV 3 sm' ((List.range i).filter (fun r => B.getD r false) ++ [i]))) (.mx 2 1) = ShT sa ha ((zerM B len S).take i ++ S.drop i) := (Ths.up_ne _ _ (by simp)).trans a22
      obtain ⟨p1, p2, _⟩ := sh_get hS24 a24
      have hpl2 : i < ha.length := by rw [p2, List.length_append, List.length_take, List.length_drop]; omega
      refine Wu_set (f := slV) (x := sz) (i := i) (p1.ex hx25) hpl2 tBB sS sS rfl rfl fun w26 hO26 hm26 => ?_
      have hS26 := sh_new hS24 a24 hx25 hO25 hpl2 hO26 hm26
      rw [stepG hzl hatz] at hS26
      refine next (sm := sm') (ha := ha.set i sz) hS26 (Ths.up_same _ _ _) ?_ (fun q c1 c2 => ?_)
      · rw [Ths.up_ne _ _ (by simp), Ths.up_same, filt_succ, if_pos hbD']
      · rw [Ths.up_ne _ _ c1, Ths.up_ne _ _ c2]; exact n22 q c1 c2
    · have hbD' := hbD.trans hbf
      rw [if_neg (by rw [hbD']; simp), List.getD_eq_getElem?_getD, List.getElem?_eq_getElem hiM] at hatz
      refine next (sm := sm) (ha := ha) hS22 ?_ ?_ n22
      · rw [a22, stepG_keep hzl hatz (by rw [List.getElem?_eq_getElem hiM]; rfl)]
      · rw [l22, filt_succ, if_neg (by rw [hbD']; simp), List.append_nil]
  clear hq1
  have hie : i = k + m := by omega
  subst hie
  have eA : (zerM B len S).take (k + m) ++ S.drop (k + m) = zerM B len S := by
    rw [List.take_of_length_le (by rw [hzl, hSs.1]; exact Nat.le_refl _), List.drop_of_length_le (by rw [hSs.1]; exact Nat.le_refl _), List.append_nil]
  rw [eA] at a22
  have hL := bools_num B (k + m)
  have hLc : ((List.range (k + m)).filter (fun r => B.getD r false)).length = cc := by rw [← hBt, ← trues_range B, hBl]
  have hLm : ∀ x, x ∈ (List.range (k + m)).filter (fun r => B.getD r false) ↔ x < k + m ∧ B.getD x false = true := fun x => by rw [List.mem_filter, List.mem_range]
  generalize (List.range (k + m)).filter (fun r => B.getD r false) = L at l22 hL hLc hLm
  have hC22 : Cod T22 0 a f k m b Q [] 0 := hC17.next (fun i => (n22 _ (by simp) (by simp)).trans (n21 _ (by simp) (by simp)))
  have npl : ∀ i, ¬ PlK 0 (.mx 2 i) := fun i => by unfold PlK GnK; simp
  refine Cl_mono (plan_ok (km := .mx 2 6) (sl := sm) (L := L) hS22 hC22 (npl 6) (fun w F h => by rw [l22] at h; exact ⟨h.1.rds, h.2⟩) hL (by omega) (by omega) (by omega)) ?_
  rintro _ w23 ⟨sM, sU, sR, hsR, D, T23, es, cl, rfl, hS23, hD, M23, U23, R23, hC23, hcl23, _, n23⟩
  dsimp only
  refine plan_new (x := ((sM, sU, sR, ⟨none, 0, 0⟩, ()) : Ats P4)) fun w24 hB24 hx24 => ?_
  have hS24 := hS23.box (.mx 2 9) hx24 hB24
  generalize w23.heap.size = gp at hB24 hS24 ⊢
  refine Cd_f ?_
  obtain ⟨T24, hT24e⟩ : ∃ T24, T24 = T23.up (.mx 2 9) (Cel gp (encAts P4 (sM, sU, sR, ⟨none, 0, 0⟩, ())) 49) := ⟨_, rfl⟩
  rw [← hT24e] at hS24
  have n24 : ∀ q, q ≠ .mx 2 9 → T24 q = T23 q := fun q hq => by rw [hT24e, Ths.up_ne _ _ hq]
  have p24 : T24 (.mx 2 9) = Cel gp (encAts P4 (sM, sU, sR, ⟨none, 0, 0⟩, ())) 49 := by rw [hT24e, Ths.up_same]
  have k24 : ∀ i, i ≠ 1 → i ≠ 5 → i ≠ 6 → i ≠ 9 → i ≠ 3 → i ≠ 4 → T24 (.mx 2 i) = T13 (.mx 2 i) := fun i c1 c2 c3 c4 c5 c6 => by
    rw [n24 _ (by simpa using c4), n23 _ (npl i), n22 _ (by simpa using c1) (by simpa using c3), n21 _ (by simpa using c2) (by simpa using c3), m17 _ (by simpa using c5) (by simpa using c6) (nup i)]
  have lo24 : T24 (.mx 2 7) = Cel gl [.int .i64 0, .int .i64 (c : Int)] 41 := (k24 7 (by omega) (by omega) (by omega) (by omega) (by omega) (by omega)).trans ((n13 _ (by simp) (by simp)).trans lo10)
  have hi24 : T24 (.mx 2 8) = Cel gh [.int .i64 (c : Int), .int .i64 (len : Int)] 41 := (k24 8 (by omega) (by omega) (by omega) (by omega) (by omega) (by omega)).trans ((n13 _ (by simp) (by simp)).trans hi10)
  have s24 : T24 (.mx 2 0) = ShT s hs S := (k24 0 (by omega) (by omega) (by omega) (by omega) (by omega) (by omega)).trans s13
  have a24 : T24 (.mx 2 1) = ShT sa ha (zerM B len S) := (n24 _ (by simp)).trans ((n23 _ (npl 1)).trans a22)
  have l24 : T24 (.mx 2 6) = Owt natV 3 sm L := (n24 _ (by simp)).trans ((n23 _ (npl 6)).trans l22)
  have M24 := (n24 _ (by simp)).trans M23
  have U24 := (n24 _ (by simp)).trans U23
  have R24 := (n24 _ (by simp)).trans R23
  have hC24 : Cod T24 0 a f k m b Q es cl := hC23.next (fun i => n24 _ (by simp))
  have nfl : ∀ i, ¬ FlK (.mx 2 i) := fun i => by unfold FlK; simp
  have nfr : ∀ i, i < 5 → ¬ FlK (.rs i) := fun i _ => by unfold FlK; simp
  have nf1 : ¬ FlK (.mx 1 0) := by unfold FlK; simp
  have nfb : ∀ i, ¬ FlK (.bx i) := fun i => by unfold FlK; simp
  have hUn := numL_take (k := k) (lostL_num (n := k + m) L)
  have hUl : ((lostL (k + m) L).take k).length = k := by have := lostL_length hL; rw [List.length_take]; omega
  have hLU : ∀ x ∈ L, x ∉ (lostL (k + m) L).take k := fun x hx h => (mem_lostL.1 (List.mem_of_mem_take h)).2 hx
  obtain ⟨D', hD', hDs⟩ := plan_dec (f := f) hQ hMds hL (by omega)
  rw [hD] at hD'
  cases hD'
  have hZ := zerM_shp (B := B) hSs
  have hZS : ∀ x t, x < k + m → x ∉ L → t < len → ent (zerM B len S) x t = ent S x t := fun x t hx hxL ht => by
    rw [ent_zer hSs hx, if_neg (fun h => hxL ((hLm x).2 ⟨hx, h⟩))]
  refine Rd_hasN (x := ((sM, sU, sR, ⟨none, 0, 0⟩, ()) : Ats P4)) (hS24.has p24) (by kernel_rfl) rfl ?_
  refine Rd_hasN (x := ((0 : Int), (c : Int), ())) (hS24.has lo24) (by kernel_rfl) rfl ?_
  refine Cl_mono (fill_ok (ks := .mx 2 1) (q0 := .rs 0) (q1 := .rs 1) (q2 := .mx 1 0) (fr := 0) hS24 hC24 a24 (by simp) M24 U24 R24 (by simp) (by simp) (by simp) (nfl 1) (nfr 0 (by omega)) (nfr 1 (by omega)) nf1 hZ hL hUn hUl hDs hLU hN1 (by omega) (Nat.zero_le _) hcl) ?_
  rintro _ w25 ⟨rfl, T25, hS25, a25, n25⟩
  obtain ⟨hA1s, hA1e⟩ := fill_ent (fr := 0) (Nat.zero_le _) hcl hQ hMds hSs hcol hZ hL (by omega) hD hZS
  change T25 (.mx 2 1) = ShT sa ha (filM 0 c len D ((lostL (k + m) L).take k) L (zerM B len S)) at a25
  generalize filM 0 c len D ((lostL (k + m) L).take k) L (zerM B len S) = A1 at a25 hA1s hA1e
  unfold q17McodeSpans.j5
  refine Cd_f ?_
  have l25 : T25 (.mx 2 6) = Owt natV 3 sm L := (n25 _ (by simp) (nfl 6)).trans l24
  have hsml := (hS25.owt l25).rds.1
  unfold q17McodeSpans.l2
  refine loopW_of (fun st w' => ∃ i : Nat, st = ((c : Int), at0 a.cp, s, (len : Int), ⟨gl, 0, none⟩, ⟨gh, 0, none⟩, sa, sm, ⟨gp, 0, none⟩, (i : Int), ()) ∧ i ≤ L.length ∧ Ex w25 w') (fun st _ => ((L.length : Int) - st.2.2.2.2.2.2.2.2.2.1).toNat) ?_ ⟨0, rfl, Nat.zero_le _, Ex.refl _⟩
  rintro q2 _ w26 ⟨i, rfl, hi, hx26⟩ hq2
  unfold q17McodeSpans.b2
  dsimp only at hq2 ⊢
  have hS26 := hS25.exx hx26
  refine Cd_dec (fun hlt2 => ?_) (fun hge2 => ?_)
  · obtain ⟨x, hx⟩ := atx (l := L) (i := i) (by omega)
    have hxm := List.mem_of_getElem? hx
    have hxk := hL.lt x hxm
    unfold q17McodeSpans.l3
    refine loopW_of (fun st w' => ∃ t : Nat, st = ((c : Int), at0 a.cp, s, (len : Int), ⟨gl, 0, none⟩, ⟨gh, 0, none⟩, sa, sm, ⟨gp, 0, none⟩, (i : Int), (t : Int), ()) ∧ c ≤ t ∧ t ≤ len ∧ Ex w25 w') (fun st _ => ((len : Int) - st.2.2.2.2.2.2.2.2.2.2.1).toNat) ?_ ⟨c, rfl, Nat.le_refl _, hcl, hx26⟩
    rintro q3 _ w27 ⟨t, rfl, ht1, ht2, hx27⟩ hq3
    unfold q17McodeSpans.b3
    dsimp only at hq3 ⊢
    have hS27 := hS25.exx hx27
    refine Cd_dec (fun hlt3 => ?_) (fun hge3 => ?_)
    · refine rd_nat (hS27.owt l25).rds hx ?_
      have hMR := sh_matR hS27 a25
      obtain ⟨h, hh⟩ := atx (l := ha) (i := x) (by rw [hMR.len, hA1s.1]; exact hxk)
      obtain ⟨r, hr, hrl⟩ := row_at hA1s hxk
      obtain ⟨y, hy⟩ := atx (l := r) (i := t) (by omega)
      refine rd_hdr hMR.hdr hh ?_
      refine rd_ent (hMR.row x h r hh hr) hy ?_
      have hy0 : y = 0#8 := by
        have := hA1e x t hxk (by omega)
        rw [ent_row hr, getD_get hy, if_neg (by omega), ent_zer hSs hxk, if_pos ((hLm x).1 hxm).2] at this
        exact this
      subst hy0
      refine Cd_ne (fun h => absurd rfl h) (fun _ => ?_)
      rw [wrap64 (x := (t : Int) + 1) (by omega) (by omega), show (t : Int) + 1 = ((t + 1 : Nat) : Int) by omega]
      exact hq3 _ _ ⟨t + 1, rfl, by omega, by omega, hx27⟩ (by dsimp only; omega)
    · rw [wrap64 (x := (i : Int) + 1) (by omega) (by omega), show (i : Int) + 1 = ((i + 1 : Nat) : Int) by omega]
      exact hq2 _ _ ⟨i + 1, rfl, by omega, hx27⟩ (by dsimp only; omega)
  clear hq2
  have m25 : ∀ i, i ≠ 1 → T25 (.mx 2 i) = T24 (.mx 2 i) := fun i hi => n25 _ (by simpa using hi) (nfl i)
  have p25 := (m25 9 (by omega)).trans p24
  have lo25 := (m25 7 (by omega)).trans lo24
  have hi25 := (m25 8 (by omega)).trans hi24
  have s25 := (m25 0 (by omega)).trans s24
  have hC25 : Cod T25 0 a f k m b Q es cl := hC24.next (fun i => n25 _ (by simp) (nfb i))
  refine Rd_hasN (x := ((sM, sU, sR, ⟨none, 0, 0⟩, ()) : Ats P4)) (hS26.has p25) (by kernel_rfl) rfl ?_
  refine Rd_hasN (x := ((c : Int), (len : Int), ())) (hS26.has hi25) (by kernel_rfl) rfl ?_
  refine Cl_mono (fill_ok (ks := .mx 2 1) (q0 := .rs 0) (q1 := .rs 1) (q2 := .mx 1 0) hS26 hC25 a25 (by simp) ((n25 _ (by simp) (nfr 0 (by omega))).trans M24) ((n25 _ (by simp) (nfr 1 (by omega))).trans U24) ((n25 _ (by simp) nf1).trans R24) (by simp) (by simp) (by simp) (nfl 1) (nfr 0 (by omega)) (nfr 1 (by omega)) nf1 hA1s hL hUn hUl hDs hLU hN1 (by omega) hcl (Nat.le_refl _)) ?_
  rintro _ w27 ⟨rfl, T27, hS27, a27, n27⟩
  refine Cd_f ?_
  have hA1S : ∀ x t, x < k + m → x ∉ L → t < len → ent A1 x t = ent S x t := fun x t hx hxL ht => by
    rw [hA1e x t hx ht, if_neg (fun h => hxL h.1)]; exact hZS x t hx hxL ht
  obtain ⟨hA2s, hA2e⟩ := fill_ent hcl (Nat.le_refl _) hQ hMds hSs hcol hA1s hL (by omega) hD hA1S
  have hA2 : filM c len len D ((lostL (k + m) L).take k) L A1 = S := ext_rows hA2s hSs fun x hx t ht => by
    rw [hA2e x t hx ht]
    by_cases hxL : x ∈ L
    · by_cases h : c ≤ t
      · rw [if_pos ⟨hxL, h, ht⟩]
      · rw [if_neg (fun h2 => h h2.2.1), hA1e x t hx ht, if_pos ⟨hxL, Nat.zero_le _, by omega⟩]
    · rw [if_neg (fun h => hxL h.1)]; exact hA1S x t hx hxL ht
  change T27 (.mx 2 1) = ShT sa ha (filM c len len D ((lostL (k + m) L).take k) L A1) at a27
  rw [hA2] at a27
  have m27 : ∀ i, i ≠ 1 → T27 (.mx 2 i) = T25 (.mx 2 i) := fun i hi => n27 _ (by simpa using hi) (nfl i)
  have s27 := (m27 0 (by omega)).trans s25
  have lo27 := (m27 7 (by omega)).trans lo25
  have hi27 := (m27 8 (by omega)).trans hi25
  have hC27 : Cod T27 0 a f k m b Q es cl := hC25.next (fun i => n27 _ (by simp) (nfb i))
  refine like hS27 a27 s27 (row16 hSs).1 (row16 hSs).2 fun w28 hS28 => ?_
  refine Cd_f ?_
  refine Rd_hasN (x := ((sM, sU, sR, ⟨none, 0, 0⟩, ()) : Ats P4)) (hS28.has ((m27 9 (by omega)).trans p25)) (by kernel_rfl) rfl ?_
  rw [wrap64 (x := (len : Int) + 1) (by omega) (by omega), show (len : Int) + 1 = ((len + 1 : Nat) : Int) by omega]
  refine Cl_mono (fill_no (ks := .mx 2 1) (n := len) hS28 hC27 a27 hSs hN1 (by omega) (by omega) (by omega)) ?_
  rintro _ w29 ⟨rfl, hS29⟩
  exact spans_end hS29 hC27 s27 a27 lo27 hi27 hQ hMds hSs hcol hN1 (by omega) hcl hh0 ⟨k1, k2⟩ ⟨m1, m2⟩ fun w' hm => by
    subst hRR
    exact ⟨rfl, hm.new (fun i hi => hi)⟩
theorem spans_open (n : CodeI) (hn : Code64 n) (W : World) (s1 : Sl) (x1 : List F8) (r1 : Rds f8v W s1 x1 ∧ x1.length ≤ 140737488355328) (s2 : Sl) (x2 : List Int) (r2 : Rds i64v W s2 x2 ∧ x2.length ≤ 140737488355328 ∧ ∀ z ∈ x2, I64 z) (z : Int) (hz : I64 z) :
    Gv Tryz.prog 8 #[.agg #[.int .i64 n.1, .int .i64 n.2.1, .int .i64 n.2.2.1, .int .i64 n.2.2.2.1], .slice s1.base s1.len s1.cap, .slice s2.base s2.len s2.cap, .int .i64 z] (.bool true) W :=
  spans_law n hn W s1 s2 z x1 x2 r1.1 r2.1 r2.2.2 hz r1.2 r2.2.1
end Go.Proofs.YtbiilejgfihohaaGreat
namespace Go.Cu
open Go Go.RowKit Go.ChangeShapes Go.WideShapes
section
variable {H : Type} {enc : TypeId × Value → H} {P : Program}
def okW (P : Program) (t : TypeId) (d : DataW H) : Prop := ∀ n ∈ d.weights P t, n ≤ reachBytes
theorem okW_each {ts : List TypeId} {ds : List (DataW H)} {j : Nat} {t : TypeId} {d : DataW H} (h : (DataW.weightsEach P ts ds).all (· ≤ reachBytes) = true) (ht : ts[j]? = some t) (hd : ds[j]? = some d) : okW P t d :=
  fun n hn => by simpa using List.all_eq_true.1 h n (DataW.weights_mem_each ht hd n hn)
theorem weights_mem_all {e : TypeId} : ∀ {ds : List (DataW H)} {j : Nat} {d : DataW H}, ds[j]? = some d → ∀ n ∈ d.weights P e, n ∈ DataW.weightsAll P e ds
  | d0 :: ds, 0, d, hd, n, hn => by
    simp only [List.getElem?_cons_zero, Option.some.injEq] at hd
    subst hd
    simp only [DataW.weightsAll, List.mem_append]; exact .inl hn
  | d0 :: ds, j + 1, d, hd, n, hn => by
    simp only [List.getElem?_cons_succ] at hd
    simp only [DataW.weightsAll, List.mem_append]; exact .inr (weights_mem_all hd n hn)
theorem okW_slice {t e : TypeId} {elems sp : List (DataW H)} (h : okW P t (.slice elems sp)) (ht : P.underlying t = some (.slice e)) :
    (elems.length + sp.length) * P.bytesOf e ≤ reachBytes ∧ ∀ (j : Nat) (d : DataW H), elems[j]? = some d → okW P e d := by
  unfold okW at h
  simp only [DataW.weights, ht, List.mem_cons, List.mem_append] at h
  exact ⟨h _ (.inl rfl), fun j d hd n hn => h n (.inr (.inl (weights_mem_all hd n hn)))⟩
theorem open_nums {W : World} {base : Nat} {held : Bool} {t e : TypeId} {k : IntKind} {fuel : Nat} {v : Value} {x : DataW H × List MemPlace} (ht : P.underlying t = some (.slice e)) (he : P.underlying e = some (.int k)) (hc : P.cellsOf e = 1) (hb : 1 ≤ P.bytesOf e)
    (h : DataW.trod enc P W base (fun _ => true) held fuel t [v] = some x) (hw : okW P t x.1) :
    ∃ (s : Sl) (l : List Int), v = .slice s.base s.len s.cap ∧ Rds (.int k) W s l ∧ (∀ n ∈ l, (Lit.int k n).wf = true) ∧ l.length ≤ 140737488351232 := by
  rcases open_ints ht he hc h with ⟨h1, rfl⟩ | ⟨a, len, cap, zs, h1, _, hl, hm, hz, rfl, hcell, hwf⟩
  · injection h1 with h1 _
    subst h1
    exact ⟨⟨none, 0, 0⟩, [], rfl, Rds.nil _ _, by simp, by simp⟩
  · injection h1 with h1 _
    subst h1
    simp only [if_true] at hz
    have hwt := (okW_slice hw ht).1
    have hmul : ∀ n, n * 1 ≤ n * P.bytesOf e := fun n => Nat.mul_le_mul_left n hb
    have hlen : (zs.take len).length = len := by rw [List.length_take]; omega
    have := hmul ((lits (H := H) k (zs.take len)).length + (lits (H := H) k (zs.drop len)).length)
    have e1 : (lits (H := H) k (zs.take len)).length = len := by simp [lits]; omega
    have hr : reachBytes = 140737488351232 := rfl
    refine ⟨⟨some a, len, cap⟩, zs.take len, rfl, ⟨hlen.symm, hl, fun i x hi => ⟨a, rfl, ?_⟩⟩, fun n hn => hwf n (List.mem_of_mem_take hn), by omega⟩
    rw [List.getElem?_take] at hi
    split at hi
    · have hi' : i < zs.length := (List.getElem?_eq_some_iff.1 hi).1
      rw [hcell i hi', List.getD_eq_getElem?_getD, hi]; rfl
    · cases hi
theorem one_of_take {cs : List Value} {o : Nat} {v : Value} (h : (cs.drop o).take 1 = [v]) : cs[o]? = some v := by
  have : ((cs.drop o).take 1)[0]? = some v := by rw [h]; rfl
  rw [List.getElem?_take, if_pos (by omega), List.getElem?_drop] at this
  simpa using this
end
end Go.Cu
namespace Go.Cu
open Go Go.RowKit Go.ChangeShapes Go.WideShapes
section
variable {H : Type} {enc : TypeId × Value → H} {P : Program}
theorem trodAll_ex (hl : laidOutB P = true) {W W' : World} (hx : Ex W W') : ∀ {ts : List TypeId} {vs : List Value} {ds : List (DataW H)} {ps : List MemPlace}, (∀ t ∈ ts, P.readableRec t = true ∧ t < P.types.size) →
    DataW.TrodAll enc P W 0 (fun _ => true) true ts vs ds ps → DataW.TrodAll enc P W' 0 (fun b => decide (b < W.heap.size)) true ts vs ds ps
  | [], vs, ds, ps, _, h => by
    obtain ⟨rfl, rfl, rfl⟩ := trodAll_nil h
    exact rfl
  | t :: ts, vs, ds, ps, hr, h => by
    obtain ⟨v, vs', d, ds', p, q, rfl, rfl, rfl, h0, h1⟩ := trodAll_cons h
    obtain ⟨r1, r2⟩ := hr t List.mem_cons_self
    have hlt : ∀ x ∈ p, x.block < W.heap.size := by
      obtain ⟨fuel, hf⟩ := h0
      exact fun x hx' => DataW.trod_lt fuel _ _ _ hf x hx'
    exact ⟨p, q, Below.trod hl r1 r2 h0 hx.below hlt, trodAll_ex hl hx (fun t ht => hr t (List.mem_cons_of_mem _ ht)) h1, rfl⟩
theorem trodAll_len : ∀ {ts : List TypeId} {vs : List Value} {ds : List (DataW H)} {ps : List MemPlace} {W : World}, DataW.TrodAll enc P W 0 (fun _ => true) true ts vs ds ps → ds.length = ts.length
  | [], vs, ds, ps, W, h => by obtain ⟨rfl, rfl, rfl⟩ := trodAll_nil h; rfl
  | t :: ts, vs, ds, ps, W, h => by
    obtain ⟨v, vs', d, ds', p, q, rfl, rfl, rfl, h0, h1⟩ := trodAll_cons h
    simp [trodAll_len h1]
theorem contract_all {f : FuncId} {fn : Func} {s : ChangeSpec} {ts : List TypeId} {tb : TypeId} {laid : List (String × DataW Unit)} (hpar : fn.params.toList = ts) (hres : fn.resultTypes.toList = [tb]) (hb : P.underlying tb = some .bool)
    (hl : laidOutB P = true) (hr : ∀ t ∈ ts, P.readableRec t = true ∧ t < P.types.size) (hvars : s.vars = []) (hfn : ∀ ds : List (DataW H), ds.length = ts.length → s.fn H (ds ++ []) = { results := [.lit (.bool true)], args := ds })
    (hcall : ∀ (W : World) (base : Nat) (args : Array Value) (ds : List (DataW H)) (p : List MemPlace), (∀ (j : Nat) t v, ts[j]? = some t → args.toList[j]? = some v → Value.okWide P W .any base t v) → DataW.TrodAll enc P W 0 (fun _ => true) true ts args.toList ds p →
      (∀ (j : Nat) t d, ts[j]? = some t → ds[j]? = some d → okW P t d) → laidMetH P laid W → Gv P f args (.bool true) W)
    (W : World) (base : Nat) (args : Array Value) (ds gs : List (DataW H)) (before : List MemPlace) (hval : ∀ (j : Nat) t v, fn.params[j]? = some t → args[j]? = some v → Value.okWide P W .any base t v)
    (hW : DataW.Whole enc P fn.params.toList s.vars false W args.toList ds gs before)
    (hwt : (DataW.weightsEach P (fn.params.toList ++ (OpenSpec.ofChange s).bare.plain.varTypes P) (ds ++ gs)).all (· ≤ reachBytes) = true) (hL : laidMetH P laid W) :
    Calls P f args W fun e W' => ∃ v, e = .returned v ∧ s.post enc P fn false true false false W args v W' := by
  have hW' := hW
  obtain ⟨p, q, hA, hV, hpq, _, _⟩ := hW
  rw [hpar] at hA
  rw [hvars] at hV
  obtain ⟨rfl, rfl⟩ := trodVars_none hV
  refine (hcall W base args ds p (fun j t v ht hv => hval j t v (by rw [← Array.getElem?_toList, hpar]; exact ht) (by rw [← Array.getElem?_toList]; exact hv)) hA (fun j t d ht hd => ?_) hL).mono fun e W1 ⟨he, hx⟩ => ⟨_, he, ?_⟩
  · refine okW_each (j := j) hwt ?_ ?_
    · rw [hpar]
      rw [List.getElem?_append_left (List.getElem?_eq_some_iff.1 ht).1]; exact ht
    · rw [List.append_nil]; exact hd
  · have hlen := trodAll_len hA
    have hsz : fn.resultTypes.size = 1 := by rw [← Array.length_toList, hres]; rfl
    refine ⟨ds, [], before, [], p, [], hW', ?_, ?_, ?_, hx.below.frame _, fun h => by cases h⟩
    · rw [hres, hsz, hfn ds hlen]; exact trodAll_mk1 (shut_bool hb true)
    · rw [hpar, hfn ds hlen]; exact trodAll_ex hl hx hr hA
    · rw [hvars, hfn ds hlen]; rfl
end
end Go.Cu
namespace Go.Proofs.YtbiilejgfihohaaGreat
open Go Go.Cu Go.ChangeShapes Go.WideShapes Go.RowKit
theorem ownKn : ownKnob Tryz.prog.godebug = none := by kernel_rfl
theorem laidOut : laidOutB Tryz.prog = true := by kernel_rfl
theorem uBool : Program.underlying Tryz.prog 4 = some .bool := by kernel_rfl
theorem uIntO : Program.underlying Tryz.prog 3 = some (.int .i64) := by kernel_rfl
theorem uU8O : Program.underlying Tryz.prog 5 = some (.int .u8) := by kernel_rfl
theorem cIntO : Program.cellsOf Tryz.prog 3 = 1 := by kernel_rfl
theorem cU8O : Program.cellsOf Tryz.prog 5 = 1 := by kernel_rfl
theorem cCode : Program.cellsOf Tryz.prog 23 = 4 := by kernel_rfl
theorem uCode : Program.underlying Tryz.prog 23 = some (.struct (Program.fieldsOf Tryz.prog 23)) := by kernel_rfl
theorem fCode : (Program.fieldsOf Tryz.prog 23).map (fun f => (f.type, f.offset)) = #[(3, 0), (3, 1), (3, 2), (3, 3)] := by kernel_rfl
theorem field_at {fs : Array Field} {l : Array (TypeId × Nat)} (h : fs.map (fun f => (f.type, f.offset)) = l) {i : Nat} {t : TypeId} {o : Nat} (hi : l[i]? = some (t, o)) : ∃ f, fs[i]? = some f ∧ f.type = t ∧ f.offset = o := by
  rw [← h, Array.getElem?_map] at hi
  cases hf : fs[i]? with
  | none => rw [hf] at hi; cases hi
  | some f =>
    rw [hf] at hi
    simp only [Option.map_some, Option.some.injEq, Prod.mk.injEq] at hi
    exact ⟨f, rfl, hi.1, hi.2⟩
section
variable {H : Type} {enc : TypeId × Value → H}
theorem wf_i64 {z : Int} (h : (Lit.int .i64 z).wf = true) : I64 z := by
  simp only [Lit.wf, IntKind.min, IntKind.max, IntKind.signed, IntKind.bits, Bool.and_eq_true, decide_eq_true_eq] at h
  simp at h
  exact h
theorem wf_u8 {z : Int} (h : (Lit.int .u8 z).wf = true) : 0 ≤ z ∧ z < 256 := by
  simp only [Lit.wf, IntKind.min, IntKind.max, IntKind.signed, IntKind.bits, Bool.and_eq_true, decide_eq_true_eq] at h
  simp at h
  omega
theorem open_code {W : World} {fuel : Nat} {v : Value} {x : DataW H × List MemPlace} (h : DataW.trod enc Tryz.prog W 0 (fun _ => true) true fuel 23 v.cells.toList = some x) :
    ∃ n : CodeI, v = .agg #[.int .i64 n.1, .int .i64 n.2.1, .int .i64 n.2.2.1, .int .i64 n.2.2.2.1] ∧ Code64 n := by
  obtain ⟨xs, n, _, rfl, hlen, hxs, hfs⟩ := DataW.trod_struct uCode h
  rw [cCode] at hlen
  have hsz : (Program.fieldsOf Tryz.prog 23).size = 4 := by have := congrArg Array.size fCode; simpa using this
  have num : ∀ (i : Nat), i < 4 → #[(3, 0), (3, 1), (3, 2), (3, 3)][i]? = some (3, i) → ∃ z, v.cells.toList[i]? = some (.int .i64 z) ∧ I64 z := by
    intro i hi hl
    obtain ⟨f, hfi, e1, e2⟩ := field_at fCode hl
    have := hfs i f hfi
    rw [List.getElem?_eq_getElem (by omega), e1, e2, cIntO] at this
    obtain ⟨z, hz, _, hwf⟩ := DataW.trod_int uIntO this
    exact ⟨z, one_of_take hz, wf_i64 hwf⟩
  obtain ⟨z0, e0, w0⟩ := num 0 (by omega) rfl
  obtain ⟨z1, e1, w1⟩ := num 1 (by omega) rfl
  obtain ⟨z2, e2, w2⟩ := num 2 (by omega) rfl
  obtain ⟨z3, e3, w3⟩ := num 3 (by omega) rfl
  have hcs : v.cells.toList = [.int .i64 z0, .int .i64 z1, .int .i64 z2, .int .i64 z3] := by
    generalize v.cells.toList = cs at hlen e0 e1 e2 e3
    match cs, hlen with
    | [a0, a1, a2, a3], _ =>
      simp only [List.getElem?_cons_zero, List.getElem?_cons_succ, Option.some.injEq] at e0 e1 e2 e3
      subst e0 e1 e2 e3
      rfl
  refine ⟨(z0, z1, z2, z3, ()), ?_, ⟨w0, w1, w2, w3⟩⟩
  cases v with
  | agg cs =>
    have : cs.toList = [.int .i64 z0, .int .i64 z1, .int .i64 z2, .int .i64 z3] := hcs
    congr 1
    exact Array.toList_inj.1 (by rw [this])
  | _ => exact absurd (congrArg List.length hcs) (by simp [Value.cells])
theorem open_bytes {W : World} {fuel : Nat} {v : Value} {x : DataW H × List MemPlace} (h : DataW.trod enc Tryz.prog W 0 (fun _ => true) true fuel 24 [v] = some x) (hw : okW Tryz.prog 24 x.1) :
    ∃ (s : Sl) (l : List F8), v = .slice s.base s.len s.cap ∧ Rds f8v W s l ∧ l.length ≤ 140737488355328 := by
  obtain ⟨s, l, hv, hr, hwf, hl⟩ := open_nums (k := .u8) tB uU8O cU8O (Nat.le_of_ble_eq_true (by kernel_rfl)) h hw
  refine ⟨s, l.map (fun z => BitVec.ofNat 8 z.toNat), hv, ⟨by rw [List.length_map]; exact hr.1, hr.2.1, fun i y hi => ?_⟩, by rw [List.length_map]; omega⟩
  rw [List.getElem?_map] at hi
  cases hz : l[i]? with
  | none => rw [hz] at hi; cases hi
  | some z =>
    rw [hz] at hi
    cases hi
    obtain ⟨a, ha, hc⟩ := hr.2.2 i z hz
    refine ⟨a, ha, ?_⟩
    have hb := wf_u8 (hwf z (List.mem_of_getElem? hz))
    have e : ((BitVec.ofNat 8 z.toNat).toNat : Int) = z := by
      rw [BitVec.toNat_ofNat, Nat.mod_eq_of_lt (by omega)]; omega
    show W.cell? (a.add i) = some (.int .u8 ((BitVec.ofNat 8 z.toNat).toNat : Int))
    rw [e]
    exact hc
theorem open_i64s {W : World} {fuel : Nat} {v : Value} {x : DataW H × List MemPlace} (h : DataW.trod enc Tryz.prog W 0 (fun _ => true) true fuel 25 [v] = some x) (hw : okW Tryz.prog 25 x.1) :
    ∃ (s : Sl) (l : List Int), v = .slice s.base s.len s.cap ∧ Rds i64v W s l ∧ l.length ≤ 140737488355328 ∧ ∀ z ∈ l, I64 z := by
  obtain ⟨s, l, hv, hr, hwf, hl⟩ := open_nums (k := .i64) tI uIntO cIntO (Nat.le_of_ble_eq_true (by kernel_rfl)) h hw
  exact ⟨s, l, hv, hr, by omega, fun z hz => wf_i64 (hwf z hz)⟩
theorem trodAll_four {w : World} {base : Nat} {spare : Nat → Bool} {held : Bool} {t0 t1 t2 t3 : TypeId} {args : Array Value} {ds : List (DataW H)} {ps : List MemPlace} (h : DataW.TrodAll enc Tryz.prog w base spare held [t0, t1, t2, t3] args.toList ds ps) :
    ∃ v0 v1 v2 v3 d0 d1 d2 d3 p0 p1 p2 p3, args = #[v0, v1, v2, v3] ∧ ds = [d0, d1, d2, d3] ∧ ps = p0 ++ (p1 ++ (p2 ++ p3)) ∧ DataW.Trod enc Tryz.prog w base spare held t0 v0 d0 p0 ∧ DataW.Trod enc Tryz.prog w base spare held t1 v1 d1 p1 ∧ DataW.Trod enc Tryz.prog w base spare held t2 v2 d2 p2 ∧ DataW.Trod enc Tryz.prog w base spare held t3 v3 d3 p3 := by
  obtain ⟨v0, vs0, d0, ds0, p0, q0, hargs, rfl, rfl, h0, r0⟩ := trodAll_cons h
  obtain ⟨v1, vs1, d1, ds1, p1, q1, rfl, rfl, rfl, h1, r1⟩ := trodAll_cons r0
  obtain ⟨v2, vs2, d2, ds2, p2, q2, rfl, rfl, rfl, h2, r2⟩ := trodAll_cons r1
  obtain ⟨v3, vs3, d3, ds3, p3, q3, rfl, rfl, rfl, h3, r3⟩ := trodAll_cons r2
  obtain ⟨rfl, rfl, rfl⟩ := trodAll_nil r3
  exact ⟨v0, v1, v2, v3, d0, d1, d2, d3, p0, p1, p2, p3, by cases args; simp_all, rfl, by simp, h0, h1, h2, h3⟩
end
noncomputable abbrev zeroCode : Value := .agg #[.int .i64 0, .int .i64 0, .int .i64 0, .int .i64 0]
end Go.Proofs.YtbiilejgfihohaaGreat
namespace Go.Proofs.YtbiilejgfihohaaGreat
open Go Go.Cu Go.RowKit
theorem tII : Tryz.prog.underlying 53 = some (.slice 25) := by kernel_rfl
theorem sII : sizeIs Tryz.prog 25 1 = true := by kernel_rfl
theorem oII : isOne Tryz.prog 25 = true := by kernel_rfl
end Go.Proofs.YtbiilejgfihohaaGreat
