/- The lifted sentences of the functions of this seat, by program, and that the walks follow from them. -/
import Derived.Test.YtmmejgneelkhkaaDoorProg
import Derived.Test.YtmmejgneelkhkaaDoorLift3
import Derived.Test.YtmmejgneelkhkaaDoorOps
set_option linter.all false
namespace Go.Proofs.YtmmejgneelkhkaaDoor
open Go Go.Cu
set_option linter.unusedVariables false
set_option maxRecDepth 100000
set_option maxHeartbeats 4000000

theorem mix_eq : Tryd.prog.follows .mixedOrders = true := by kernel_rfl
noncomputable def shape_Length.body : Code := (Tryd.f27.body).getD .skip
def shape_Length.j1 (R : Ending → World → Prop)  (length_11 : Int) (w : World) : Prop :=
  R (.returned (.tuple #[(.int .i64 length_11), (.int .i64 0)])) w
def shape_Length.M (R : Ending → World → Prop) (f_0 : Int) (k_1 : Int) (m_2 : Int) (n_3 : Int) (w : World) : Prop :=
  Cl Tryd.prog 46 #[(.int .i64 f_0), (.int .i64 k_1), (.int .i64 m_2)] (.one (.at (.int .i64))) (fun (x1 : Int) w2 =>
  Cd (x1 != 0) (R (.returned (.tuple #[(.int .i64 0), (.int .i64 x1)])) w2) (Cd (decide (n_3 < 1)) (R (.returned (.tuple #[(.int .i64 0), (.int .i64 163)])) w2) (Cd (decide (n_3 > 1099511627776)) (R (.returned (.tuple #[(.int .i64 0), (.int .i64 5)])) w2) (Pu Tryd.prog (do eqGuard .quo 3 (.tmp 28) (.tmp 29) (.int .i64 (IntKind.wrap .i64 ((IntKind.wrap .i64 (n_3 + k_1)) - 1))) (.int .i64 k_1); binOp .quo 3 (.int .i64 (IntKind.wrap .i64 ((IntKind.wrap .i64 (n_3 + k_1)) - 1))) (.int .i64 k_1)) (.one (.at (.int .i64))) (fun (x3 : Int) w4 =>
  Cl Tryd.prog 49 #[(.int .i64 f_0), (.int .i64 x3)] (.one (.at .bool)) (fun (x5 : Bool) w6 =>
  Cd x5 (shape_Length.j1 R (IntKind.wrap .i64 (x3 + 1)) w6) (shape_Length.j1 R x3 w6)) w4) w2)))) w
noncomputable def shape_Length.ann (R : Ending → World → Prop) : Ann :=
  .seq (.reg (.op 0 .now (.op 1 .now (.done)))) (.seq (.seq (.reg (.op 0 .now (.op 1 .now (.op 2 .now (.op 3 (.cl (.one (.at (.int .i64)))) (.op 4 .now (.done))))))) (.seq (.reg (.op 0 .now (.op 1 .now (.done)))) (.cond (.seq (.reg (.op 0 .now (.op 1 .now (.op 2 .now (.done))))) (.leaf)) (.leaf)))) (.seq (.block (.seq (.reg (.op 0 .now (.op 1 .now (.op 2 .now (.done))))) (.cond (.seq (.reg (.op 0 .now (.op 1 .now (.done)))) (.leaf)) (.seq (.reg (.op 0 .now (.op 1 .now (.op 2 .now (.done))))) (.cond (.seq (.reg (.op 0 .now (.op 1 .now (.done)))) (.leaf)) (.leaf)))))) (.seq (.reg (.op 0 .now (.op 1 .now (.op 2 .now (.op 3 .now (.op 4 .now (.op 5 (.pu (.one (.at (.int .i64)))) (.op 6 .now (.done))))))))) (.join [(11, .at (.int .i64))] (fun s w => shape_Length.j1 R s.1 w) (.seq (.reg (.op 0 .now (.op 1 .now (.op 2 (.cl (.one (.at .bool))) (.done))))) (.cond (.reg (.op 0 .now (.op 1 .now (.op 2 .now (.done))))) (.leaf))) (.seq (.reg (.op 0 .now (.op 1 .now (.op 2 .now (.done))))) (.leaf))))))
theorem shape_Length.run (R : Ending → World → Prop) (f_0 : Int) (k_1 : Int) (m_2 : Int) (n_3 : Int) (w : World) (h : shape_Length.M R f_0 k_1 m_2 n_3 w) : Calls Tryd.prog 27 #[(.int .i64 f_0), (.int .i64 k_1), (.int .i64 m_2), (.int .i64 n_3)] w R := by
  refine calls_of_lift mix_eq Tryd.func27 (c := shape_Length.body) (by kernel_rfl) [.at (.int .i64), .at (.int .i64)] (shape_Length.ann R) 37 Tryd.ntmps27 [.tmp 8, .tmp 9] (by kernel_rfl) (Nat.le_of_ble_eq_true (by kernel_rfl)) ?_ ?_
  · exact ⟨trivial, ⟨⟨trivial, ⟨trivial, ⟨⟨trivial, trivial⟩, trivial⟩⟩⟩, ⟨⟨trivial, ⟨⟨trivial, trivial⟩, ⟨trivial, ⟨⟨trivial, trivial⟩, trivial⟩⟩⟩⟩, ⟨trivial, ⟨fun s w h => Eq.mp (by kernel_rfl) h, ⟨trivial, ⟨trivial, trivial⟩⟩, ⟨trivial, trivial⟩⟩⟩⟩⟩⟩
  · exact Eq.mp (show shape_Length.M R f_0 k_1 m_2 n_3 w = _ by kernel_rfl) h

noncomputable def culletref16_Length.body : Code := (Tryd.f32.body).getD .skip
def culletref16_Length.M (R : Ending → World → Prop) (f_0 : Int) (k_1 : Int) (m_2 : Int) (n_3 : Int) (w : World) : Prop :=
  Cl Tryd.prog 42 #[(.int .i64 f_0), (.int .i64 k_1), (.int .i64 m_2)] (.one (.at (.int .i64))) (fun (x1 : Int) w2 =>
  Cd (x1 != 0) (R (.returned (.tuple #[(.int .i64 0), (.int .i64 x1)])) w2) (Cd (decide (n_3 < 1)) (R (.returned (.tuple #[(.int .i64 0), (.int .i64 163)])) w2) (Cd (decide (n_3 > 1099511627776)) (R (.returned (.tuple #[(.int .i64 0), (.int .i64 5)])) w2) (Cl Tryd.prog 52 #[(.int .i64 f_0), (.int .i64 k_1), (.int .i64 n_3)] (.one (.at (.int .i64))) (fun (x3 : Int) w4 =>
  R (.returned (.tuple #[(.int .i64 x3), (.int .i64 0)])) w4) w2)))) w
noncomputable def culletref16_Length.ann (R : Ending → World → Prop) : Ann :=
  .seq (.reg (.op 0 .now (.op 1 .now (.done)))) (.seq (.reg (.op 0 .now (.op 1 .now (.op 2 .now (.op 3 (.cl (.one (.at (.int .i64)))) (.op 4 .now (.done))))))) (.seq (.seq (.reg (.op 0 .now (.op 1 .now (.done)))) (.cond (.seq (.reg (.op 0 .now (.op 1 .now (.op 2 .now (.done))))) (.leaf)) (.leaf))) (.seq (.seq (.reg (.op 0 .now (.op 1 .now (.done)))) (.cond (.seq (.reg (.op 0 .now (.op 1 .now (.done)))) (.leaf)) (.leaf))) (.seq (.seq (.reg (.op 0 .now (.op 1 .now (.done)))) (.cond (.seq (.reg (.op 0 .now (.op 1 .now (.done)))) (.leaf)) (.leaf))) (.seq (.reg (.op 0 .now (.op 1 .now (.op 2 .now (.op 3 (.cl (.one (.at (.int .i64)))) (.op 4 .now (.op 5 .now (.done)))))))) (.leaf))))))
theorem culletref16_Length.run (R : Ending → World → Prop) (f_0 : Int) (k_1 : Int) (m_2 : Int) (n_3 : Int) (w : World) (h : culletref16_Length.M R f_0 k_1 m_2 n_3 w) : Calls Tryd.prog 32 #[(.int .i64 f_0), (.int .i64 k_1), (.int .i64 m_2), (.int .i64 n_3)] w R := by
  refine calls_of_lift mix_eq Tryd.func32 (c := culletref16_Length.body) (by kernel_rfl) [.at (.int .i64), .at (.int .i64)] (culletref16_Length.ann R) 26 Tryd.ntmps32 [.tmp 8, .tmp 9] (by kernel_rfl) (Nat.le_of_ble_eq_true (by kernel_rfl)) ?_ ?_
  · exact ⟨trivial, ⟨trivial, ⟨⟨trivial, ⟨⟨trivial, trivial⟩, trivial⟩⟩, ⟨⟨trivial, ⟨⟨trivial, trivial⟩, trivial⟩⟩, ⟨⟨trivial, ⟨⟨trivial, trivial⟩, trivial⟩⟩, ⟨trivial, trivial⟩⟩⟩⟩⟩⟩
  · exact Eq.mp (show culletref16_Length.M R f_0 k_1 m_2 n_3 w = _ by kernel_rfl) h

noncomputable def culletref16_Uses.body : Code := (Tryd.f41.body).getD .skip
def culletref16_Uses.j2 (R : Ending → World → Prop)  (t18 : Bool) (w : World) : Prop :=
  Cd t18 (R (.returned (.int .i64 0)) w) (R (.returned (.int .i64 3)) w)
def culletref16_Uses.j3 (R : Ending → World → Prop)  (t26 : Bool) (w : World) : Prop :=
  Cd t26 (R (.returned (.int .i64 0)) w) (R (.returned (.int .i64 3)) w)
def culletref16_Uses.j1 (R : Ending → World → Prop)  (b_1 : Int) (t5 : Int) (t6 : Bool) (w : World) : Prop :=
  Cd t6 (Cd (b_1 == 0) (culletref16_Uses.j2 R true w) (Cd (b_1 == 1) (culletref16_Uses.j2 R true w) (culletref16_Uses.j2 R (b_1 == 2) w))) (Cd (t5 == 2) (Cd (b_1 == 3) (culletref16_Uses.j3 R true w) (culletref16_Uses.j3 R (b_1 == 4) w)) (R (.returned (.int .i64 2)) w))
def culletref16_Uses.M (R : Ending → World → Prop) (f_0 : Int) (b_1 : Int) (w : World) : Prop :=
  Cd (f_0 == 0) (culletref16_Uses.j1 R b_1 f_0 (f_0 == 0) w) (culletref16_Uses.j1 R b_1 f_0 (f_0 == 1) w)
noncomputable def culletref16_Uses.ann (R : Ending → World → Prop) : Ann :=
  .seq (.reg (.op 0 .now (.done))) (.seq (.seq (.reg (.op 0 .now (.done))) (.block (.join [(1, .at (.int .i64)), (5, .at (.int .i64)), (6, .at .bool)] (fun s w => culletref16_Uses.j1 R s.1 s.2.1 s.2.2.1 w) (.seq (.reg (.op 0 .now (.op 1 .now (.done)))) (.cond (.leaf) (.reg (.op 0 .now (.op 1 .now (.done)))))) (.cond (.seq (.join [(18, .at .bool)] (fun s w => culletref16_Uses.j2 R s.1 w) (.reg (.op 0 .now (.op 1 .now (.op 2 .now (.split 2 (.skip 3 (.skip 4 (.op 5 .now (.op 6 .now (.skip 7 (.skip 8 (.op 9 .now (.done)))))))) (.op 3 .now (.op 4 .now (.op 5 .now (.op 6 .now (.split 6 (.skip 7 (.skip 8 (.op 9 .now (.done)))) (.op 7 .now (.op 8 .now (.op 9 .now (.done)))))))))))))) (.cond (.seq (.reg (.op 0 .now (.done))) (.leaf)) (.leaf))) (.seq (.reg (.op 0 .now (.done))) (.leaf))) (.seq (.reg (.op 0 .now (.op 1 .now (.done)))) (.cond (.seq (.join [(26, .at .bool)] (fun s w => culletref16_Uses.j3 R s.1 w) (.reg (.op 0 .now (.op 1 .now (.op 2 .now (.split 2 (.skip 3 (.skip 4 (.op 5 .now (.done)))) (.op 3 .now (.op 4 .now (.op 5 .now (.done))))))))) (.cond (.seq (.reg (.op 0 .now (.done))) (.leaf)) (.leaf))) (.seq (.reg (.op 0 .now (.done))) (.leaf))) (.leaf))))))) (.seq (.reg (.op 0 .now (.done))) (.leaf)))
theorem culletref16_Uses.run (R : Ending → World → Prop) (f_0 : Int) (b_1 : Int) (w : World) (h : culletref16_Uses.M R f_0 b_1 w) : Calls Tryd.prog 41 #[(.int .i64 f_0), (.int .i64 b_1)] w R := by
  refine calls_of_lift mix_eq Tryd.func41 (c := culletref16_Uses.body) (by kernel_rfl) [.at (.int .i64)] (culletref16_Uses.ann R) 27 Tryd.ntmps41 [.tmp 4] (by kernel_rfl) (Nat.le_of_ble_eq_true (by kernel_rfl)) ?_ ?_
  · exact ⟨trivial, ⟨⟨trivial, ⟨fun s w h => Eq.mp (by kernel_rfl) h, ⟨trivial, ⟨trivial, trivial⟩⟩, ⟨⟨⟨fun s w h => Eq.mp (by kernel_rfl) h, trivial, ⟨⟨trivial, trivial⟩, trivial⟩⟩, ⟨trivial, trivial⟩⟩, ⟨trivial, ⟨⟨⟨fun s w h => Eq.mp (by kernel_rfl) h, trivial, ⟨⟨trivial, trivial⟩, trivial⟩⟩, ⟨trivial, trivial⟩⟩, trivial⟩⟩⟩⟩⟩, ⟨trivial, trivial⟩⟩⟩
  · exact Eq.mp (show culletref16_Uses.M R f_0 b_1 w = _ by kernel_rfl) h

noncomputable def culletref16_Params.body : Code := (Tryd.f42.body).getD .skip
def culletref16_Params.j2 (R : Ending → World → Prop)  (f_0 : Int) (k_1 : Int) (m_2 : Int) (t32 : Bool) (w : World) : Prop :=
  Cd t32 (R (.returned (.int .i64 4)) w) (Cd (f_0 != 2) (Cd (decide ((IntKind.wrap .i64 (k_1 + m_2)) > 256)) (R (.returned (.int .i64 4)) w) (R (.returned (.int .i64 0)) w)) (Cl Tryd.prog 56 #[(.int .i64 m_2)] (.tup [.at (.int .i64), .at (.int .i64)]) (fun x1 w2 =>
  Cd (decide ((IntKind.wrap .i64 (x1.1 + k_1)) > 65536)) (R (.returned (.int .i64 4)) w2) (R (.returned (.int .i64 0)) w2)) w))
def culletref16_Params.j1 (R : Ending → World → Prop)  (f_0 : Int) (k_1 : Int) (m_2 : Int) (t18 : Bool) (w : World) : Prop :=
  Cd t18 (R (.returned (.int .i64 2)) w) (Cd (decide (k_1 < 1)) (culletref16_Params.j2 R f_0 k_1 m_2 true w) (Cd (decide (m_2 < 1)) (culletref16_Params.j2 R f_0 k_1 m_2 true w) (Cd (decide (k_1 > 65536)) (culletref16_Params.j2 R f_0 k_1 m_2 true w) (culletref16_Params.j2 R f_0 k_1 m_2 (decide (m_2 > 65536)) w))))
def culletref16_Params.M (R : Ending → World → Prop) (f_0 : Int) (k_1 : Int) (m_2 : Int) (w : World) : Prop :=
  Cd (f_0 != 0) (Cd (f_0 != 1) (culletref16_Params.j1 R f_0 k_1 m_2 (f_0 != 2) w) (culletref16_Params.j1 R f_0 k_1 m_2 false w)) (culletref16_Params.j1 R f_0 k_1 m_2 false w)
noncomputable def culletref16_Params.ann (R : Ending → World → Prop) : Ann :=
  .seq (.reg (.op 0 .now (.done))) (.seq (.join [(0, .at (.int .i64)), (1, .at (.int .i64)), (2, .at (.int .i64)), (18, .at .bool)] (fun s w => culletref16_Params.j1 R s.1 s.2.1 s.2.2.1 s.2.2.2.1 w) (.reg (.op 0 .now (.op 1 .now (.op 2 .now (.split 2 (.op 3 .now (.op 4 .now (.op 5 .now (.op 6 .now (.split 6 (.op 7 .now (.op 8 .now (.op 9 .now (.done)))) (.skip 7 (.skip 8 (.op 9 .now (.done))))))))) (.skip 3 (.skip 4 (.op 5 .now (.op 6 .now (.skip 7 (.skip 8 (.op 9 .now (.done))))))))))))) (.cond (.seq (.reg (.op 0 .now (.done))) (.leaf)) (.leaf))) (.seq (.join [(0, .at (.int .i64)), (1, .at (.int .i64)), (2, .at (.int .i64)), (32, .at .bool)] (fun s w => culletref16_Params.j2 R s.1 s.2.1 s.2.2.1 s.2.2.2.1 w) (.reg (.op 0 .now (.op 1 .now (.op 2 .now (.split 2 (.skip 3 (.skip 4 (.op 5 .now (.op 6 .now (.skip 7 (.skip 8 (.op 9 .now (.op 10 .now (.skip 11 (.skip 12 (.op 13 .now (.done)))))))))))) (.op 3 .now (.op 4 .now (.op 5 .now (.op 6 .now (.split 6 (.skip 7 (.skip 8 (.op 9 .now (.op 10 .now (.skip 11 (.skip 12 (.op 13 .now (.done)))))))) (.op 7 .now (.op 8 .now (.op 9 .now (.op 10 .now (.split 10 (.skip 11 (.skip 12 (.op 13 .now (.done)))) (.op 11 .now (.op 12 .now (.op 13 .now (.done))))))))))))))))))) (.cond (.seq (.reg (.op 0 .now (.done))) (.leaf)) (.leaf))) (.seq (.seq (.reg (.op 0 .now (.op 1 .now (.done)))) (.cond (.seq (.seq (.reg (.op 0 .now (.op 1 .now (.op 2 .now (.op 3 .now (.done)))))) (.cond (.seq (.reg (.op 0 .now (.done))) (.leaf)) (.leaf))) (.seq (.reg (.op 0 .now (.done))) (.leaf))) (.leaf))) (.seq (.reg (.op 0 .now (.op 1 (.cl (.tup [.at (.int .i64), .at (.int .i64)])) (.op 2 .now (.op 3 .now (.op 4 .now (.op 5 .now (.op 6 .now (.done))))))))) (.seq (.seq (.reg (.op 0 .now (.op 1 .now (.op 2 .now (.op 3 .now (.done)))))) (.cond (.seq (.reg (.op 0 .now (.done))) (.leaf)) (.leaf))) (.seq (.reg (.op 0 .now (.done))) (.leaf)))))))
theorem culletref16_Params.run (R : Ending → World → Prop) (f_0 : Int) (k_1 : Int) (m_2 : Int) (w : World) (h : culletref16_Params.M R f_0 k_1 m_2 w) : Calls Tryd.prog 42 #[(.int .i64 f_0), (.int .i64 k_1), (.int .i64 m_2)] w R := by
  refine calls_of_lift mix_eq Tryd.func42 (c := culletref16_Params.body) (by kernel_rfl) [.at (.int .i64)] (culletref16_Params.ann R) 48 Tryd.ntmps42 [.tmp 6] (by kernel_rfl) (Nat.le_of_ble_eq_true (by kernel_rfl)) ?_ ?_
  · exact ⟨trivial, ⟨⟨fun s w h => Eq.mp (by kernel_rfl) h, trivial, ⟨⟨trivial, trivial⟩, trivial⟩⟩, ⟨⟨fun s w h => Eq.mp (by kernel_rfl) h, trivial, ⟨⟨trivial, trivial⟩, trivial⟩⟩, ⟨⟨trivial, ⟨⟨⟨trivial, ⟨⟨trivial, trivial⟩, trivial⟩⟩, ⟨trivial, trivial⟩⟩, trivial⟩⟩, ⟨trivial, ⟨⟨trivial, ⟨⟨trivial, trivial⟩, trivial⟩⟩, ⟨trivial, trivial⟩⟩⟩⟩⟩⟩⟩
  · exact Eq.mp (show culletref16_Params.M R f_0 k_1 m_2 w = _ by kernel_rfl) h

noncomputable def culletref18_New.body : Code := (Tryd.f43.body).getD .skip
def culletref18_New.M (R : Ending → World → Prop) (k_0 : Int) (m_1 : Int) (w : World) : Prop :=
  Wr Tryd.prog (Instr.alloc 36 true (.tuple #[])) (.one (.at .addr)) (fun (x1 : Addr) w2 =>
  Wr Tryd.prog (Instr.alloc 36 true (.tuple #[])) (.one (.at .addr)) (fun (x3 : Addr) w4 =>
  Wu Tryd.prog (Instr.storeAt 36 (.pointer (some x3)) (.agg #[(.int .i64 k_0), (.int .i64 m_1), (.int .i64 0), (.int .i64 0), (.int .i64 0), (.int .i64 0), (.slice none 0 0), (.slice none 0 0), (.slice none 0 0)])) (fun w5 =>
  Cl Tryd.prog 57 #[(.int .i64 m_1)] (.tup [.at (.int .i64), .at (.int .i64)]) (fun x6 w7 =>
  Wu Tryd.prog (Instr.storeAt 3 (.pointer (some (Addr.add x3 2))) (.int .i64 x6.1)) (fun w8 =>
  Wu Tryd.prog (Instr.storeAt 3 (.pointer (some (Addr.add x3 3))) (.int .i64 x6.2.1)) (fun w9 =>
  Rd Tryd.prog (Instr.loadAt 3 (.pointer (some (Addr.add x3 2)))) (.one (.at (.int .i64))) (fun (x10 : Int) w11 =>
  Cl Tryd.prog 57 #[(.int .i64 (IntKind.wrap .i64 (x10 + k_0)))] (.tup [.at (.int .i64), .at (.int .i64)]) (fun x12 w13 =>
  Wu Tryd.prog (Instr.storeAt 3 (.pointer (some (Addr.add x3 4))) (.int .i64 x12.1)) (fun w14 =>
  Wu Tryd.prog (Instr.storeAt 3 (.pointer (some (Addr.add x3 5))) (.int .i64 x12.2.1)) (fun w15 =>
  Rd Tryd.prog (Instr.loadAt 3 (.pointer (some (Addr.add x3 5)))) (.one (.at (.int .i64))) (fun (x16 : Int) w17 =>
  Cl Tryd.prog 58 #[(.int .i64 x16)] (.one (.at .sl)) (fun (x18 : Sl) w19 =>
  Wu Tryd.prog (Instr.storeAt 34 (.pointer (some (Addr.add x3 6))) (.slice x18.base x18.len x18.cap)) (fun w20 =>
  Cl Tryd.prog 59 #[] (.one (.at .sl)) (fun (x21 : Sl) w22 =>
  Wu Tryd.prog (Instr.storeAt 24 (.pointer (some (Addr.add x3 7))) (.slice x21.base x21.len x21.cap)) (fun w23 =>
  Cl Tryd.prog 60 #[] (.one (.at .sl)) (fun (x24 : Sl) w25 =>
  Wu Tryd.prog (Instr.storeAt 34 (.pointer (some (Addr.add x3 8))) (.slice x24.base x24.len x24.cap)) (fun w26 =>
  Rd Tryd.prog (Instr.loadAt 36 (.pointer (some x3))) (.one (.agg [.int .i64, .int .i64, .int .i64, .int .i64, .int .i64, .int .i64, .sl, .sl, .sl])) (fun x27 w28 =>
  Wu Tryd.prog (Instr.storeAt 36 (.pointer (some x1)) (.agg #[(.int .i64 x27.1), (.int .i64 x27.2.1), (.int .i64 x27.2.2.1), (.int .i64 x27.2.2.2.1), (.int .i64 x27.2.2.2.2.1), (.int .i64 x27.2.2.2.2.2.1), (.slice x27.2.2.2.2.2.2.1.base x27.2.2.2.2.2.2.1.len x27.2.2.2.2.2.2.1.cap), (.slice x27.2.2.2.2.2.2.2.1.base x27.2.2.2.2.2.2.2.1.len x27.2.2.2.2.2.2.2.1.cap), (.slice x27.2.2.2.2.2.2.2.2.1.base x27.2.2.2.2.2.2.2.2.1.len x27.2.2.2.2.2.2.2.2.1.cap)])) (fun w29 =>
  ∃ r30 : (Int × Int × Int × Int × Int × Int × Sl × Sl × Sl × Unit), (loadVar 36 x1).run Tryd.prog w29 = .ok (.agg #[(.int .i64 r30.1), (.int .i64 r30.2.1), (.int .i64 r30.2.2.1), (.int .i64 r30.2.2.2.1), (.int .i64 r30.2.2.2.2.1), (.int .i64 r30.2.2.2.2.2.1), (.slice r30.2.2.2.2.2.2.1.base r30.2.2.2.2.2.2.1.len r30.2.2.2.2.2.2.1.cap), (.slice r30.2.2.2.2.2.2.2.1.base r30.2.2.2.2.2.2.2.1.len r30.2.2.2.2.2.2.2.1.cap), (.slice r30.2.2.2.2.2.2.2.2.1.base r30.2.2.2.2.2.2.2.2.1.len r30.2.2.2.2.2.2.2.2.1.cap)]) w29 ∧ R (.returned (.agg #[(.int .i64 r30.1), (.int .i64 r30.2.1), (.int .i64 r30.2.2.1), (.int .i64 r30.2.2.2.1), (.int .i64 r30.2.2.2.2.1), (.int .i64 r30.2.2.2.2.2.1), (.slice r30.2.2.2.2.2.2.1.base r30.2.2.2.2.2.2.1.len r30.2.2.2.2.2.2.1.cap), (.slice r30.2.2.2.2.2.2.2.1.base r30.2.2.2.2.2.2.2.1.len r30.2.2.2.2.2.2.2.1.cap), (.slice r30.2.2.2.2.2.2.2.2.1.base r30.2.2.2.2.2.2.2.2.1.len r30.2.2.2.2.2.2.2.2.1.cap)])) w29) w28) w26) w25) w23) w22) w20) w19) w17) w15) w14) w13) w11) w9) w8) w7) w5) w4) w2) w
noncomputable def culletref18_New.ann (R : Ending → World → Prop) : Ann :=
  .seq (.reg (.op 0 (.wr (.one (.at .addr))) (.done))) (.seq (.reg (.op 0 .now (.op 1 .now (.op 2 .now (.op 3 (.wr (.one (.at .addr))) (.op 4 .wu (.done))))))) (.seq (.reg (.op 0 .now (.op 1 (.cl (.tup [.at (.int .i64), .at (.int .i64)])) (.op 2 .now (.op 3 .now (.op 4 .now (.op 5 .now (.op 6 .wu (.op 7 .now (.op 8 .wu (.done))))))))))) (.seq (.reg (.op 0 .now (.op 1 (.rd (.one (.at (.int .i64)))) (.op 2 .now (.op 3 .now (.op 4 (.cl (.tup [.at (.int .i64), .at (.int .i64)])) (.op 5 .now (.op 6 .now (.op 7 .now (.op 8 .now (.op 9 .wu (.op 10 .now (.op 11 .wu (.done)))))))))))))) (.seq (.reg (.op 0 .now (.op 1 (.rd (.one (.at (.int .i64)))) (.op 2 (.cl (.one (.at .sl))) (.op 3 .now (.op 4 .wu (.done))))))) (.seq (.reg (.op 0 (.cl (.one (.at .sl))) (.op 1 .now (.op 2 .wu (.done))))) (.seq (.reg (.op 0 (.cl (.one (.at .sl))) (.op 1 .now (.op 2 .wu (.done))))) (.seq (.reg (.op 0 (.rd (.one (.agg [.int .i64, .int .i64, .int .i64, .int .i64, .int .i64, .int .i64, .sl, .sl, .sl]))) (.op 1 .wu (.done)))) (.leaf))))))))
theorem culletref18_New.run (R : Ending → World → Prop) (k_0 : Int) (m_1 : Int) (w : World) (h : culletref18_New.M R k_0 m_1 w) : Calls Tryd.prog 43 #[(.int .i64 k_0), (.int .i64 m_1)] w R := by
  refine calls_of_lift mix_eq Tryd.func43 (c := culletref18_New.body) (by kernel_rfl) [.agg [.int .i64, .int .i64, .int .i64, .int .i64, .int .i64, .int .i64, .sl, .sl, .sl]] (culletref18_New.ann R) 35 Tryd.ntmps43 [.cell 4 36] (by kernel_rfl) (Nat.le_of_ble_eq_true (by kernel_rfl)) ?_ ?_
  · exact ⟨trivial, ⟨trivial, ⟨trivial, ⟨trivial, ⟨trivial, ⟨trivial, ⟨trivial, ⟨trivial, trivial⟩⟩⟩⟩⟩⟩⟩⟩
  · exact Eq.mp (show culletref18_New.M R k_0 m_1 w = _ by kernel_rfl) h

noncomputable def culletref17_New.body : Code := (Tryd.f44.body).getD .skip
def culletref17_New.j2 (R : Ending → World → Prop)  (f_0 : Int) (k_2 : Int) (m_3 : Int) (none_10 : (Option Addr)) (t26 : Bool) (w : World) : Prop :=
  Cd t26 (R (.returned (.tuple #[(.pointer none_10), (.int .i64 3)])) w) (Cl Tryd.prog 61 #[(.int .i64 f_0), (.int .i64 k_2), (.int .i64 m_3)] (.one (.at (.int .i64))) (fun (x1 : Int) w2 =>
  Cd (x1 != 0) (R (.returned (.tuple #[(.pointer none_10), (.int .i64 x1)])) w2) (Cl Tryd.prog 62 #[(.int .i64 f_0), (.int .i64 k_2), (.int .i64 m_3)] (.tup [.at .sl, .at (.int .i64)]) (fun x3 w4 =>
  Wr Tryd.prog (Instr.box 163 (.agg #[(.int .i64 f_0), (.int .i64 k_2), (.int .i64 m_3), (.slice x3.1.base x3.1.len x3.1.cap), (.slice none 0 0)])) (.one (.at .addr)) (fun (x5 : Addr) w6 =>
  R (.returned (.tuple #[(.pointer (some x5)), (.int .i64 0)])) w6) w4) w2)) w)
def culletref17_New.j1 (R : Ending → World → Prop)  (f_0 : Int) (b_1 : Int) (k_2 : Int) (m_3 : Int) (none_10 : (Option Addr)) (t19 : Bool) (w : World) : Prop :=
  Cd t19 (R (.returned (.tuple #[(.pointer none_10), (.int .i64 2)])) w) (Cd (decide (b_1 < 0)) (culletref17_New.j2 R f_0 k_2 m_3 none_10 true w) (culletref17_New.j2 R f_0 k_2 m_3 none_10 (decide (b_1 > 2)) w))
def culletref17_New.M (R : Ending → World → Prop) (f_0 : Int) (b_1 : Int) (k_2 : Int) (m_3 : Int) (w : World) : Prop :=
  Cd (f_0 != 0) (culletref17_New.j1 R f_0 b_1 k_2 m_3 none (f_0 != 1) w) (culletref17_New.j1 R f_0 b_1 k_2 m_3 none false w)
noncomputable def culletref17_New.ann (R : Ending → World → Prop) : Ann :=
  .seq (.reg (.op 0 .now (.op 1 .now (.done)))) (.seq (.reg (.op 0 .now (.done))) (.seq (.join [(0, .at (.int .i64)), (1, .at (.int .i64)), (2, .at (.int .i64)), (3, .at (.int .i64)), (10, .at .ptr), (19, .at .bool)] (fun s w => culletref17_New.j1 R s.1 s.2.1 s.2.2.1 s.2.2.2.1 s.2.2.2.2.1 s.2.2.2.2.2.1 w) (.reg (.op 0 .now (.op 1 .now (.op 2 .now (.split 2 (.op 3 .now (.op 4 .now (.op 5 .now (.done)))) (.skip 3 (.skip 4 (.op 5 .now (.done))))))))) (.cond (.seq (.reg (.op 0 .now (.op 1 .now (.op 2 .now (.done))))) (.leaf)) (.leaf))) (.seq (.join [(0, .at (.int .i64)), (2, .at (.int .i64)), (3, .at (.int .i64)), (10, .at .ptr), (26, .at .bool)] (fun s w => culletref17_New.j2 R s.1 s.2.1 s.2.2.1 s.2.2.2.1 s.2.2.2.2.1 w) (.reg (.op 0 .now (.op 1 .now (.op 2 .now (.split 2 (.skip 3 (.skip 4 (.op 5 .now (.done)))) (.op 3 .now (.op 4 .now (.op 5 .now (.done))))))))) (.cond (.seq (.reg (.op 0 .now (.op 1 .now (.op 2 .now (.done))))) (.leaf)) (.leaf))) (.seq (.reg (.op 0 .now (.op 1 .now (.op 2 .now (.op 3 (.cl (.one (.at (.int .i64)))) (.op 4 .now (.done))))))) (.seq (.seq (.reg (.op 0 .now (.op 1 .now (.done)))) (.cond (.seq (.reg (.op 0 .now (.op 1 .now (.op 2 .now (.op 3 .now (.done)))))) (.leaf)) (.leaf))) (.seq (.reg (.op 0 .now (.op 1 .now (.op 2 .now (.op 3 (.cl (.tup [.at .sl, .at (.int .i64)])) (.op 4 .now (.op 5 .now (.op 6 .now (.op 7 .now (.op 8 .now (.done))))))))))) (.seq (.reg (.op 0 .now (.op 1 .now (.op 2 .now (.op 3 .now (.op 4 .now (.op 5 (.wr (.one (.at .addr))) (.op 6 .now (.op 7 .now (.done)))))))))) (.leaf))))))))
theorem culletref17_New.run (R : Ending → World → Prop) (f_0 : Int) (b_1 : Int) (k_2 : Int) (m_3 : Int) (w : World) (h : culletref17_New.M R f_0 b_1 k_2 m_3 w) : Calls Tryd.prog 44 #[(.int .i64 f_0), (.int .i64 b_1), (.int .i64 k_2), (.int .i64 m_3)] w R := by
  refine calls_of_lift mix_eq Tryd.func44 (c := culletref17_New.body) (by kernel_rfl) [.at .ptr, .at (.int .i64)] (culletref17_New.ann R) 49 Tryd.ntmps44 [.tmp 8, .tmp 9] (by kernel_rfl) (Nat.le_of_ble_eq_true (by kernel_rfl)) ?_ ?_
  · exact ⟨trivial, ⟨trivial, ⟨⟨fun s w h => Eq.mp (by kernel_rfl) h, trivial, ⟨⟨trivial, trivial⟩, trivial⟩⟩, ⟨⟨fun s w h => Eq.mp (by kernel_rfl) h, trivial, ⟨⟨trivial, trivial⟩, trivial⟩⟩, ⟨trivial, ⟨⟨trivial, ⟨⟨trivial, trivial⟩, trivial⟩⟩, ⟨trivial, ⟨trivial, trivial⟩⟩⟩⟩⟩⟩⟩⟩
  · exact Eq.mp (show culletref17_New.M R f_0 b_1 k_2 m_3 w = _ by kernel_rfl) h

noncomputable def shape_Uses.body : Code := (Tryd.f45.body).getD .skip
def shape_Uses.j2 (R : Ending → World → Prop)  (fits_5 : Bool) (w : World) : Prop :=
  Cd (!fits_5) (R (.returned (.int .i64 3)) w) (R (.returned (.int .i64 0)) w)
def shape_Uses.j1 (R : Ending → World → Prop)  (f_0 : Int) (b_1 : Int) (fits_5 : Bool) (w : World) : Prop :=
  Cd (f_0 != 2) (Cd (b_1 == 0) (shape_Uses.j2 R true w) (Cd (b_1 == 1) (shape_Uses.j2 R true w) (shape_Uses.j2 R (b_1 == 2) w))) (shape_Uses.j2 R fits_5 w)
def shape_Uses.M (R : Ending → World → Prop) (f_0 : Int) (b_1 : Int) (w : World) : Prop :=
  Cl Tryd.prog 63 #[(.int .i64 f_0)] (.one (.at .bool)) (fun (x1 : Bool) w2 =>
  Cd (!x1) (R (.returned (.int .i64 2)) w2) (Cd (b_1 == 3) (shape_Uses.j1 R f_0 b_1 true w2) (shape_Uses.j1 R f_0 b_1 (b_1 == 4) w2))) w
noncomputable def shape_Uses.ann (R : Ending → World → Prop) : Ann :=
  .seq (.reg (.op 0 .now (.done))) (.seq (.seq (.reg (.op 0 .now (.op 1 (.cl (.one (.at .bool))) (.op 2 .now (.done))))) (.cond (.seq (.reg (.op 0 .now (.done))) (.leaf)) (.leaf))) (.join [(0, .at (.int .i64)), (1, .at (.int .i64)), (5, .at .bool)] (fun s w => shape_Uses.j1 R s.1 s.2.1 s.2.2.1 w) (.reg (.op 0 .now (.op 1 .now (.op 2 .now (.split 2 (.skip 3 (.skip 4 (.op 5 .now (.op 6 .now (.done))))) (.op 3 .now (.op 4 .now (.op 5 .now (.op 6 .now (.done)))))))))) (.join [(5, .at .bool)] (fun s w => shape_Uses.j2 R s.1 w) (.seq (.reg (.op 0 .now (.op 1 .now (.done)))) (.cond (.reg (.op 0 .now (.op 1 .now (.op 2 .now (.split 2 (.skip 3 (.skip 4 (.op 5 .now (.op 6 .now (.skip 7 (.skip 8 (.op 9 .now (.op 10 .now (.done))))))))) (.op 3 .now (.op 4 .now (.op 5 .now (.op 6 .now (.split 6 (.skip 7 (.skip 8 (.op 9 .now (.op 10 .now (.done))))) (.op 7 .now (.op 8 .now (.op 9 .now (.op 10 .now (.done))))))))))))))) (.leaf))) (.seq (.seq (.reg (.op 0 .now (.op 1 .now (.done)))) (.cond (.seq (.reg (.op 0 .now (.done))) (.leaf)) (.leaf))) (.seq (.reg (.op 0 .now (.done))) (.leaf))))))
theorem shape_Uses.run (R : Ending → World → Prop) (f_0 : Int) (b_1 : Int) (w : World) (h : shape_Uses.M R f_0 b_1 w) : Calls Tryd.prog 45 #[(.int .i64 f_0), (.int .i64 b_1)] w R := by
  refine calls_of_lift mix_eq Tryd.func45 (c := shape_Uses.body) (by kernel_rfl) [.at (.int .i64)] (shape_Uses.ann R) 29 Tryd.ntmps45 [.tmp 4] (by kernel_rfl) (Nat.le_of_ble_eq_true (by kernel_rfl)) ?_ ?_
  · exact ⟨trivial, ⟨⟨trivial, ⟨⟨trivial, trivial⟩, trivial⟩⟩, ⟨fun s w h => Eq.mp (by kernel_rfl) h, trivial, ⟨fun s w h => Eq.mp (by kernel_rfl) h, ⟨trivial, ⟨trivial, trivial⟩⟩, ⟨⟨trivial, ⟨⟨trivial, trivial⟩, trivial⟩⟩, ⟨trivial, trivial⟩⟩⟩⟩⟩⟩
  · exact Eq.mp (show shape_Uses.M R f_0 b_1 w = _ by kernel_rfl) h

noncomputable def shape_Params.body : Code := (Tryd.f46.body).getD .skip
def shape_Params.j3 (R : Ending → World → Prop)  (t35 : Bool) (w : World) : Prop :=
  Cd t35 (R (.returned (.int .i64 4)) w) (R (.returned (.int .i64 0)) w)
def shape_Params.j2 (R : Ending → World → Prop)  (f_0 : Int) (k_1 : Int) (m_2 : Int) (t26 : Bool) (w : World) : Prop :=
  Cd t26 (R (.returned (.int .i64 4)) w) (Cd (f_0 == 2) (Cl Tryd.prog 64 #[(.int .i64 m_2)] (.one (.at (.int .i64))) (fun (x3 : Int) w4 =>
  shape_Params.j3 R (decide ((IntKind.wrap .i64 (k_1 + x3)) > 65536)) w4) w) (shape_Params.j3 R false w))
def shape_Params.j1 (R : Ending → World → Prop)  (f_0 : Int) (k_1 : Int) (m_2 : Int) (t11 : Bool) (w : World) : Prop :=
  Cd t11 (R (.returned (.int .i64 4)) w) (Cd (f_0 != 2) (shape_Params.j2 R f_0 k_1 m_2 (decide ((IntKind.wrap .i64 (k_1 + m_2)) > 256)) w) (shape_Params.j2 R f_0 k_1 m_2 false w))
def shape_Params.M (R : Ending → World → Prop) (f_0 : Int) (k_1 : Int) (m_2 : Int) (w : World) : Prop :=
  Cl Tryd.prog 63 #[(.int .i64 f_0)] (.one (.at .bool)) (fun (x1 : Bool) w2 =>
  Cd (!x1) (R (.returned (.int .i64 2)) w2) (Cd (decide (k_1 < 1)) (shape_Params.j1 R f_0 k_1 m_2 true w2) (Cd (decide (m_2 < 1)) (shape_Params.j1 R f_0 k_1 m_2 true w2) (Cd (decide (k_1 > 65536)) (shape_Params.j1 R f_0 k_1 m_2 true w2) (shape_Params.j1 R f_0 k_1 m_2 (decide (m_2 > 65536)) w2))))) w
noncomputable def shape_Params.ann (R : Ending → World → Prop) : Ann :=
  .seq (.reg (.op 0 .now (.done))) (.seq (.block (.seq (.reg (.op 0 .now (.op 1 (.cl (.one (.at .bool))) (.op 2 .now (.op 3 .now (.done)))))) (.cond (.seq (.reg (.op 0 .now (.done))) (.leaf)) (.join [(0, .at (.int .i64)), (1, .at (.int .i64)), (2, .at (.int .i64)), (11, .at .bool)] (fun s w => shape_Params.j1 R s.1 s.2.1 s.2.2.1 s.2.2.2.1 w) (.reg (.op 0 .now (.op 1 .now (.op 2 .now (.split 2 (.skip 3 (.skip 4 (.op 5 .now (.op 6 .now (.skip 7 (.skip 8 (.op 9 .now (.op 10 .now (.skip 11 (.skip 12 (.op 13 .now (.op 14 .now (.done))))))))))))) (.op 3 .now (.op 4 .now (.op 5 .now (.op 6 .now (.split 6 (.skip 7 (.skip 8 (.op 9 .now (.op 10 .now (.skip 11 (.skip 12 (.op 13 .now (.op 14 .now (.done))))))))) (.op 7 .now (.op 8 .now (.op 9 .now (.op 10 .now (.split 10 (.skip 11 (.skip 12 (.op 13 .now (.op 14 .now (.done))))) (.op 11 .now (.op 12 .now (.op 13 .now (.op 14 .now (.done)))))))))))))))))))) (.cond (.seq (.reg (.op 0 .now (.done))) (.leaf)) (.join [(0, .at (.int .i64)), (1, .at (.int .i64)), (2, .at (.int .i64)), (26, .at .bool)] (fun s w => shape_Params.j2 R s.1 s.2.1 s.2.2.1 s.2.2.2.1 w) (.reg (.op 0 .now (.op 1 .now (.op 2 .now (.split 2 (.op 3 .now (.op 4 .now (.op 5 .now (.op 6 .now (.op 7 .now (.op 8 .now (.done))))))) (.skip 3 (.skip 4 (.skip 5 (.skip 6 (.op 7 .now (.op 8 .now (.done)))))))))))) (.cond (.seq (.reg (.op 0 .now (.done))) (.leaf)) (.join [(35, .at .bool)] (fun s w => shape_Params.j3 R s.1 w) (.reg (.op 0 .now (.op 1 .now (.op 2 .now (.split 2 (.op 3 .now (.op 4 .now (.op 5 (.cl (.one (.at (.int .i64)))) (.op 6 .now (.op 7 .now (.op 8 .now (.op 9 .now (.done)))))))) (.skip 3 (.skip 4 (.skip 5 (.skip 6 (.skip 7 (.op 8 .now (.op 9 .now (.done))))))))))))) (.cond (.seq (.reg (.op 0 .now (.done))) (.leaf)) (.leaf)))))))))) (.seq (.reg (.op 0 .now (.done))) (.leaf)))
theorem shape_Params.run (R : Ending → World → Prop) (f_0 : Int) (k_1 : Int) (m_2 : Int) (w : World) (h : shape_Params.M R f_0 k_1 m_2 w) : Calls Tryd.prog 46 #[(.int .i64 f_0), (.int .i64 k_1), (.int .i64 m_2)] w R := by
  refine calls_of_lift mix_eq Tryd.func46 (c := shape_Params.body) (by kernel_rfl) [.at (.int .i64)] (shape_Params.ann R) 45 Tryd.ntmps46 [.tmp 6] (by kernel_rfl) (Nat.le_of_ble_eq_true (by kernel_rfl)) ?_ ?_
  · exact ⟨trivial, ⟨⟨trivial, ⟨⟨trivial, trivial⟩, ⟨fun s w h => Eq.mp (by kernel_rfl) h, trivial, ⟨⟨trivial, trivial⟩, ⟨fun s w h => Eq.mp (by kernel_rfl) h, trivial, ⟨⟨trivial, trivial⟩, ⟨fun s w h => Eq.mp (by kernel_rfl) h, trivial, ⟨⟨trivial, trivial⟩, trivial⟩⟩⟩⟩⟩⟩⟩⟩, ⟨trivial, trivial⟩⟩⟩
  · exact Eq.mp (show shape_Params.M R f_0 k_1 m_2 w = _ by kernel_rfl) h

noncomputable def trie_New.body : Code := (Tryd.f47.body).getD .skip
def trie_New.j1 (R : Ending → World → Prop)  (limit_0 : Int) (t9 : Bool) (w : World) : Prop :=
  Cd t9 (R (.returned (.tuple #[(.pointer none), (.int .i64 7)])) w) (Cl Tryd.prog 65 #[] (.one (.at .ptr)) (fun (x1 : (Option Addr)) w2 =>
  Wr Tryd.prog (Instr.box 169 (.agg #[(.pointer x1), (.int .i64 limit_0), (.int .i64 0), (.int .i64 0)])) (.one (.at .addr)) (fun (x3 : Addr) w4 =>
  R (.returned (.tuple #[(.pointer (some x3)), (.int .i64 0)])) w4) w2) w)
def trie_New.M (R : Ending → World → Prop) (limit_0 : Int) (w : World) : Prop :=
  Cd (decide (limit_0 < 1)) (trie_New.j1 R limit_0 true w) (trie_New.j1 R limit_0 (decide (limit_0 > 1024)) w)
noncomputable def trie_New.ann (R : Ending → World → Prop) : Ann :=
  .seq (.reg (.op 0 .now (.op 1 .now (.done)))) (.seq (.join [(0, .at (.int .i64)), (9, .at .bool)] (fun s w => trie_New.j1 R s.1 s.2.1 w) (.reg (.op 0 .now (.op 1 .now (.op 2 .now (.split 2 (.skip 3 (.skip 4 (.op 5 .now (.done)))) (.op 3 .now (.op 4 .now (.op 5 .now (.done))))))))) (.cond (.seq (.reg (.op 0 .now (.op 1 .now (.done)))) (.leaf)) (.leaf))) (.seq (.reg (.op 0 (.cl (.one (.at .ptr))) (.op 1 .now (.op 2 .now (.op 3 (.wr (.one (.at .addr))) (.op 4 .now (.op 5 .now (.done)))))))) (.leaf)))
theorem trie_New.run (R : Ending → World → Prop) (limit_0 : Int) (w : World) (h : trie_New.M R limit_0 w) : Calls Tryd.prog 47 #[(.int .i64 limit_0)] w R := by
  refine calls_of_lift mix_eq Tryd.func47 (c := trie_New.body) (by kernel_rfl) [.at .ptr, .at (.int .i64)] (trie_New.ann R) 14 Tryd.ntmps47 [.tmp 2, .tmp 3] (by kernel_rfl) (Nat.le_of_ble_eq_true (by kernel_rfl)) ?_ ?_
  · exact ⟨trivial, ⟨⟨fun s w h => Eq.mp (by kernel_rfl) h, trivial, ⟨⟨trivial, trivial⟩, trivial⟩⟩, ⟨trivial, trivial⟩⟩⟩
  · exact Eq.mp (show trie_New.M R limit_0 w = _ by kernel_rfl) h

noncomputable def shape_odd.body : Code := (Tryd.f49.body).getD .skip
def shape_odd.M (R : Ending → World → Prop) (f_0 : Int) (length_1 : Int) (w : World) : Prop :=
  Cd (f_0 == 2) (R (.returned (.bool ((Int.tmod length_1 2) == 1))) w) (R (.returned (.bool false)) w)
noncomputable def shape_odd.ann (R : Ending → World → Prop) : Ann :=
  .seq (.reg (.op 0 .now (.done))) (.seq (.reg (.op 0 .now (.op 1 .now (.op 2 .now (.split 2 (.op 3 .now (.op 4 .now (.op 5 .now (.op 6 .now (.op 7 .now (.done)))))) (.skip 3 (.skip 4 (.skip 5 (.op 6 .now (.op 7 .now (.done))))))))))) (.leaf))
theorem shape_odd.run (R : Ending → World → Prop) (f_0 : Int) (length_1 : Int) (w : World) (h : shape_odd.M R f_0 length_1 w) : Calls Tryd.prog 49 #[(.int .i64 f_0), (.int .i64 length_1)] w R := by
  refine calls_of_lift mix_eq Tryd.func49 (c := shape_odd.body) (by kernel_rfl) [.at .bool] (shape_odd.ann R) 12 Tryd.ntmps49 [.tmp 4] (by kernel_rfl) (Nat.le_of_ble_eq_true (by kernel_rfl)) ?_ ?_
  · exact ⟨trivial, ⟨trivial, trivial⟩⟩
  · exact Eq.mp (show shape_odd.M R f_0 length_1 w = _ by kernel_rfl) h

noncomputable def culletref16_length.body : Code := (Tryd.f52.body).getD .skip
def culletref16_length.j2 (R : Ending → World → Prop)  (l_7 : Int) (w : World) : Prop :=
  R (.returned (.int .i64 l_7)) w
def culletref16_length.j3 (R : Ending → World → Prop)  (l_7 : Int) (t23 : Bool) (w : World) : Prop :=
  Cd t23 (culletref16_length.j2 R (IntKind.wrap .i64 (l_7 + 1)) w) (culletref16_length.j2 R l_7 w)
def culletref16_length.j1 (R : Ending → World → Prop)  (f_0 : Int) (l_7 : Int) (w : World) : Prop :=
  Cd (f_0 == 2) (culletref16_length.j3 R l_7 ((Int.tmod l_7 2) == 1) w) (culletref16_length.j3 R l_7 false w)
def culletref16_length.M (R : Ending → World → Prop) (f_0 : Int) (k_1 : Int) (n_2 : Int) (w : World) : Prop :=
  Pu Tryd.prog (do eqGuard .quo 3 (.tmp 8) (.tmp 9) (.int .i64 n_2) (.int .i64 k_1); binOp .quo 3 (.int .i64 n_2) (.int .i64 k_1)) (.one (.at (.int .i64))) (fun (x1 : Int) w2 =>
  Pu Tryd.prog (do eqGuard .rem 3 (.tmp 11) (.tmp 12) (.int .i64 n_2) (.int .i64 k_1); binOp .rem 3 (.int .i64 n_2) (.int .i64 k_1)) (.one (.at (.int .i64))) (fun (x3 : Int) w4 =>
  Cd (decide (x3 > 0)) (culletref16_length.j1 R f_0 (IntKind.wrap .i64 (x1 + 1)) w4) (culletref16_length.j1 R f_0 x1 w4)) w2) w
noncomputable def culletref16_length.ann (R : Ending → World → Prop) : Ann :=
  .seq (.reg (.op 0 .now (.done))) (.seq (.reg (.op 0 .now (.op 1 .now (.op 2 (.pu (.one (.at (.int .i64)))) (.op 3 .now (.done)))))) (.join [(0, .at (.int .i64)), (7, .at (.int .i64))] (fun s w => culletref16_length.j1 R s.1 s.2.1 w) (.seq (.reg (.op 0 .now (.op 1 .now (.op 2 (.pu (.one (.at (.int .i64)))) (.op 3 .now (.done)))))) (.cond (.reg (.op 0 .now (.op 1 .now (.op 2 .now (.done))))) (.leaf))) (.join [(7, .at (.int .i64))] (fun s w => culletref16_length.j2 R s.1 w) (.join [(7, .at (.int .i64)), (23, .at .bool)] (fun s w => culletref16_length.j3 R s.1 s.2.1 w) (.reg (.op 0 .now (.op 1 .now (.op 2 .now (.split 2 (.op 3 .now (.op 4 .now (.op 5 .now (.op 6 .now (.done))))) (.skip 3 (.skip 4 (.skip 5 (.op 6 .now (.done)))))))))) (.cond (.reg (.op 0 .now (.op 1 .now (.op 2 .now (.done))))) (.leaf))) (.seq (.reg (.op 0 .now (.op 1 .now (.done)))) (.leaf)))))
theorem culletref16_length.run (R : Ending → World → Prop) (f_0 : Int) (k_1 : Int) (n_2 : Int) (w : World) (h : culletref16_length.M R f_0 k_1 n_2 w) : Calls Tryd.prog 52 #[(.int .i64 f_0), (.int .i64 k_1), (.int .i64 n_2)] w R := by
  refine calls_of_lift mix_eq Tryd.func52 (c := culletref16_length.body) (by kernel_rfl) [.at (.int .i64)] (culletref16_length.ann R) 27 Tryd.ntmps52 [.tmp 6] (by kernel_rfl) (Nat.le_of_ble_eq_true (by kernel_rfl)) ?_ ?_
  · exact ⟨trivial, ⟨trivial, ⟨fun s w h => Eq.mp (by kernel_rfl) h, ⟨trivial, ⟨trivial, trivial⟩⟩, ⟨fun s w h => Eq.mp (by kernel_rfl) h, ⟨fun s w h => Eq.mp (by kernel_rfl) h, trivial, ⟨trivial, trivial⟩⟩, ⟨trivial, trivial⟩⟩⟩⟩⟩
  · exact Eq.mp (show culletref16_length.M R f_0 k_1 n_2 w = _ by kernel_rfl) h

noncomputable def culletref16_Pow2.body : Code := (Tryd.f56.body).getD .skip
def culletref16_Pow2.b1 (R : Ending → World → Prop) (k1 : (Int × Int × Unit) → World → Prop) (n_0 : Int) (p_4 : Int) (w : World) : Prop :=
  Cd (decide (p_4 < n_0)) (k1 (n_0, (IntKind.wrap .i64 (2 * p_4)), ()) w) (R (.returned (.tuple #[(.int .i64 p_4), (.int .i64 0)])) w)
def culletref16_Pow2.l1 (R : Ending → World → Prop) : (Int × Int × Unit) → World → Prop := loopW (fun k1 s w => culletref16_Pow2.b1 R k1 s.1 s.2.1 w)
def culletref16_Pow2.j1 (R : Ending → World → Prop)  (n_0 : Int) (t10 : Bool) (w : World) : Prop :=
  Cd t10 (R (.returned (.tuple #[(.int .i64 0), (.int .i64 7)])) w) (culletref16_Pow2.l1 R (n_0, 1, ()) w)
def culletref16_Pow2.M (R : Ending → World → Prop) (n_0 : Int) (w : World) : Prop :=
  Cd (decide (n_0 < 1)) (culletref16_Pow2.j1 R n_0 true w) (culletref16_Pow2.j1 R n_0 (decide (n_0 > 65536)) w)
noncomputable def culletref16_Pow2.ann (R : Ending → World → Prop) : Ann :=
  .seq (.reg (.op 0 .now (.op 1 .now (.done)))) (.seq (.join [(0, .at (.int .i64)), (10, .at .bool)] (fun s w => culletref16_Pow2.j1 R s.1 s.2.1 w) (.reg (.op 0 .now (.op 1 .now (.op 2 .now (.split 2 (.skip 3 (.skip 4 (.op 5 .now (.done)))) (.op 3 .now (.op 4 .now (.op 5 .now (.done))))))))) (.cond (.seq (.reg (.op 0 .now (.op 1 .now (.done)))) (.leaf)) (.leaf))) (.seq (.reg (.op 0 .now (.done))) (.seq (.block (.loop [(0, .at (.int .i64)), (4, .at (.int .i64))] (fun k1 s w => culletref16_Pow2.b1 R k1 s.1 s.2.1 w) (fun k1 => .seq (.seq (.reg (.op 0 .now (.op 1 .now (.op 2 .now (.done))))) (.cond (.leaf) (.leaf))) (.block (.reg (.op 0 .now (.op 1 .now (.op 2 .now (.done))))))))) (.seq (.reg (.op 0 .now (.op 1 .now (.op 2 .now (.done))))) (.leaf)))))
theorem culletref16_Pow2.run (R : Ending → World → Prop) (n_0 : Int) (w : World) (h : culletref16_Pow2.M R n_0 w) : Calls Tryd.prog 56 #[(.int .i64 n_0)] w R := by
  refine calls_of_lift mix_eq Tryd.func56 (c := culletref16_Pow2.body) (by kernel_rfl) [.at (.int .i64), .at (.int .i64)] (culletref16_Pow2.ann R) 17 Tryd.ntmps56 [.tmp 2, .tmp 3] (by kernel_rfl) (Nat.le_of_ble_eq_true (by kernel_rfl)) ?_ ?_
  · exact ⟨trivial, ⟨⟨fun s w h => Eq.mp (by kernel_rfl) h, trivial, ⟨⟨trivial, trivial⟩, trivial⟩⟩, ⟨trivial, ⟨(fun k1 => ⟨fun s w h => Eq.mp (by kernel_rfl) h, ⟨⟨trivial, ⟨trivial, trivial⟩⟩, trivial⟩⟩), ⟨trivial, trivial⟩⟩⟩⟩⟩
  · exact Eq.mp (show culletref16_Pow2.M R n_0 w = _ by kernel_rfl) h

noncomputable def culletref18_power.body : Code := (Tryd.f57.body).getD .skip
def culletref18_power.b1 (R : Ending → World → Prop) (k1 : (Int × Int × Int × Unit) → World → Prop) (n_0 : Int) (p_4 : Int) (e_5 : Int) (w : World) : Prop :=
  Cd (decide (p_4 < n_0)) (k1 (n_0, (IntKind.wrap .i64 (p_4 * 2)), (IntKind.wrap .i64 (e_5 + 1)), ()) w) (R (.returned (.tuple #[(.int .i64 p_4), (.int .i64 e_5)])) w)
def culletref18_power.l1 (R : Ending → World → Prop) : (Int × Int × Int × Unit) → World → Prop := loopW (fun k1 s w => culletref18_power.b1 R k1 s.1 s.2.1 s.2.2.1 w)
def culletref18_power.M (R : Ending → World → Prop) (n_0 : Int) (w : World) : Prop :=
  culletref18_power.l1 R (n_0, 1, 0, ()) w
noncomputable def culletref18_power.ann (R : Ending → World → Prop) : Ann :=
  .seq (.reg (.op 0 .now (.op 1 .now (.done)))) (.seq (.reg (.op 0 .now (.op 1 .now (.done)))) (.seq (.block (.loop [(0, .at (.int .i64)), (4, .at (.int .i64)), (5, .at (.int .i64))] (fun k1 s w => culletref18_power.b1 R k1 s.1 s.2.1 s.2.2.1 w) (fun k1 => .seq (.seq (.reg (.op 0 .now (.op 1 .now (.op 2 .now (.done))))) (.cond (.leaf) (.leaf))) (.block (.seq (.reg (.op 0 .now (.op 1 .now (.op 2 .now (.done))))) (.reg (.op 0 .now (.op 1 .now (.op 2 .now (.done)))))))))) (.seq (.reg (.op 0 .now (.op 1 .now (.op 2 .now (.op 3 .now (.done)))))) (.leaf))))
theorem culletref18_power.run (R : Ending → World → Prop) (n_0 : Int) (w : World) (h : culletref18_power.M R n_0 w) : Calls Tryd.prog 57 #[(.int .i64 n_0)] w R := by
  refine calls_of_lift mix_eq Tryd.func57 (c := culletref18_power.body) (by kernel_rfl) [.at (.int .i64), .at (.int .i64)] (culletref18_power.ann R) 15 Tryd.ntmps57 [.tmp 2, .tmp 3] (by kernel_rfl) (Nat.le_of_ble_eq_true (by kernel_rfl)) ?_ ?_
  · exact ⟨trivial, ⟨trivial, ⟨(fun k1 => ⟨fun s w h => Eq.mp (by kernel_rfl) h, ⟨⟨trivial, ⟨trivial, trivial⟩⟩, ⟨trivial, trivial⟩⟩⟩), ⟨trivial, trivial⟩⟩⟩⟩
  · exact Eq.mp (show culletref18_power.M R n_0 w = _ by kernel_rfl) h

noncomputable def culletref03_ElementsTo.body : Code := (Tryd.f58.body).getD .skip
def culletref03_ElementsTo.j1 (R : Ending → World → Prop)  (k1 : (Int × Sl × Sl × Int × Unit) → World → Prop) (k2 : (Int × Sl × Sl × Int × Int × Int × Unit) → World → Prop) (r_0 : Int) (basis_3 : Sl) (w_4 : Sl) (t_5 : Int) (n_6 : Int) (i_7 : Int) (w : World) : Prop :=
  k2 (r_0, basis_3, w_4, t_5, n_6, (IntKind.wrap .i64 (i_7 + 1)), ()) w
def culletref03_ElementsTo.b2 (R : Ending → World → Prop) (k1 : (Int × Sl × Sl × Int × Unit) → World → Prop) (k2 : (Int × Sl × Sl × Int × Int × Int × Unit) → World → Prop) (r_0 : Int) (basis_3 : Sl) (w_4 : Sl) (t_5 : Int) (n_6 : Int) (i_7 : Int) (w : World) : Prop :=
  Cd (decide (i_7 < n_6)) (Held w.drew (fun S7 => Pu Tryd.prog (Instr.indexAt 34 (.slice w_4.base w_4.len w_4.cap) (.int .i64 i_7)) (.one (.at .addr)) (fun (x8 : Addr) w9 =>
  RdS Tryd.prog S7 (Instr.loadAt 187 (.pointer (some x8))) (.one (.at (.int .u16))) (fun (x10 : Int) w11 =>
  Pu Tryd.prog (Instr.indexAt 34 (.slice basis_3.base basis_3.len basis_3.cap) (.int .i64 t_5)) (.one (.at .addr)) (fun (x12 : Addr) w13 =>
  RdS Tryd.prog S7 (Instr.loadAt 187 (.pointer (some x12))) (.one (.at (.int .u16))) (fun (x14 : Int) w15 =>
  Wr Tryd.prog (Instr.buildSlice 34 1 #[(0, (.int .u16 (bXor .u16 x10 x14)))]) (.one (.at .sl)) (fun (x16 : Sl) w17 =>
  S7 w17 ∧ (Wr Tryd.prog (Builtin.append_ #[34, 34] 34 #[(.slice w_4.base w_4.len w_4.cap), (.slice x16.base x16.len x16.cap)]) (.one (.at .sl)) (fun (x18 : Sl) w19 =>
  S7 w19 ∧ (culletref03_ElementsTo.j1 R k1 k2 r_0 basis_3 x18 t_5 n_6 i_7 w19)) w17)) w15) w13) w11) w9) w.drew)) (k1 (r_0, basis_3, w_4, (IntKind.wrap .i64 (t_5 + 1)), ()) w)
def culletref03_ElementsTo.l2 (R : Ending → World → Prop) (k1 : (Int × Sl × Sl × Int × Unit) → World → Prop) : (Int × Sl × Sl × Int × Int × Int × Unit) → World → Prop := loopW (fun k2 s w => culletref03_ElementsTo.b2 R k1 k2 s.1 s.2.1 s.2.2.1 s.2.2.2.1 s.2.2.2.2.1 s.2.2.2.2.2.1 w)
def culletref03_ElementsTo.b1 (R : Ending → World → Prop) (k1 : (Int × Sl × Sl × Int × Unit) → World → Prop) (r_0 : Int) (basis_3 : Sl) (w_4 : Sl) (t_5 : Int) (w : World) : Prop :=
  Cd (decide (t_5 < r_0)) (culletref03_ElementsTo.l2 R k1 (r_0, basis_3, w_4, t_5, ((w_4.len : Nat) : Int), 0, ()) w) (R (.returned (.slice w_4.base w_4.len w_4.cap)) w)
def culletref03_ElementsTo.l1 (R : Ending → World → Prop) : (Int × Sl × Sl × Int × Unit) → World → Prop := loopW (fun k1 s w => culletref03_ElementsTo.b1 R k1 s.1 s.2.1 s.2.2.1 s.2.2.2.1 w)
def culletref03_ElementsTo.M (R : Ending → World → Prop) (r_0 : Int) (w : World) : Prop :=
  Cl Tryd.prog 67 #[] (.one (.at .sl)) (fun (x1 : Sl) w2 =>
  Pu Tryd.prog (do eqGuard .shl 3 (.const (.int .i64 1)) (.tmp 10) (.int .i64 1) (.int .u64 (IntKind.wrap .u64 r_0)); binOp .shl 3 (.int .i64 1) (.int .u64 (IntKind.wrap .u64 r_0))) (.one (.at (.int .i64))) (fun (x3 : Int) w4 =>
  Wr Tryd.prog (Instr.makeSlice 34 (.int .i64 1) (.int .i64 x3)) (.one (.at .sl)) (fun (x5 : Sl) w6 =>
  culletref03_ElementsTo.l1 R (r_0, x1, x5, 0, ()) w6) w4) w2) w
noncomputable def culletref03_ElementsTo.ann (R : Ending → World → Prop) : Ann :=
  .seq (.reg (.op 0 .now (.done))) (.seq (.reg (.op 0 (.cl (.one (.at .sl))) (.op 1 .now (.done)))) (.seq (.reg (.op 0 .now (.op 1 .now (.op 2 (.pu (.one (.at (.int .i64)))) (.op 3 (.wr (.one (.at .sl))) (.op 4 .now (.done))))))) (.seq (.seq (.reg (.op 0 .now (.done))) (.block (.loop [(0, .at (.int .i64)), (3, .at .sl), (4, .at .sl), (5, .at (.int .i64))] (fun k1 s w => culletref03_ElementsTo.b1 R k1 s.1 s.2.1 s.2.2.1 s.2.2.2.1 w) (fun k1 => .seq (.seq (.reg (.op 0 .now (.op 1 .now (.op 2 .now (.done))))) (.cond (.leaf) (.leaf))) (.seq (.block (.seq (.reg (.op 0 .now (.op 1 .now (.op 2 .now (.done))))) (.seq (.reg (.op 0 .now (.done))) (.block (.loop [(0, .at (.int .i64)), (3, .at .sl), (4, .at .sl), (5, .at (.int .i64)), (6, .at (.int .i64)), (7, .at (.int .i64))] (fun k2 s w => culletref03_ElementsTo.b2 R k1 k2 s.1 s.2.1 s.2.2.1 s.2.2.2.1 s.2.2.2.2.1 s.2.2.2.2.2.1 w) (fun k2 => .seq (.seq (.reg (.op 0 .now (.op 1 .now (.op 2 .now (.done))))) (.cond (.leaf) (.leaf))) (.join [(0, .at (.int .i64)), (3, .at .sl), (4, .at .sl), (5, .at (.int .i64)), (6, .at (.int .i64)), (7, .at (.int .i64))] (fun s w => culletref03_ElementsTo.j1 R k1 k2 s.1 s.2.1 s.2.2.1 s.2.2.2.1 s.2.2.2.2.1 s.2.2.2.2.2.1 w) (.block (.regD (.op 0 .now (.op 1 .now (.op 2 .now (.op 3 (.pu (.one (.at .addr))) (.op 4 (.rd (.one (.at (.int .u16)))) (.op 5 .now (.op 6 .now (.op 7 (.pu (.one (.at .addr))) (.op 8 (.rd (.one (.at (.int .u16)))) (.op 9 .now (.op 10 (.wr (.one (.at .sl))) (.op 11 (.wr (.one (.at .sl))) (.op 12 .now (.done)))))))))))))))) (.reg (.op 0 .now (.op 1 .now (.op 2 .now (.done)))))))))))) (.reg (.op 0 .now (.op 1 .now (.op 2 .now (.done)))))))))) (.seq (.reg (.op 0 .now (.op 1 .now (.done)))) (.leaf)))))
theorem culletref03_ElementsTo.run (R : Ending → World → Prop) (r_0 : Int) (w : World) (h : culletref03_ElementsTo.M R r_0 w) : Calls Tryd.prog 58 #[(.int .i64 r_0)] w R := by
  refine calls_of_lift mix_eq Tryd.func58 (c := culletref03_ElementsTo.body) (by kernel_rfl) [.at .sl] (culletref03_ElementsTo.ann R) 38 Tryd.ntmps58 [.tmp 2] (by kernel_rfl) (Nat.le_of_ble_eq_true (by kernel_rfl)) ?_ ?_
  · exact ⟨trivial, ⟨trivial, ⟨trivial, ⟨⟨trivial, (fun k1 => ⟨fun s w h => Eq.mp (by kernel_rfl) h, ⟨⟨trivial, ⟨trivial, trivial⟩⟩, ⟨⟨trivial, ⟨trivial, (fun k2 => ⟨fun s w h => Eq.mp (by kernel_rfl) h, ⟨⟨trivial, ⟨trivial, trivial⟩⟩, ⟨fun s w h => Eq.mp (by kernel_rfl) h, (show Region.noSelect _ = true by kernel_rfl), trivial⟩⟩⟩)⟩⟩, trivial⟩⟩⟩)⟩, ⟨trivial, trivial⟩⟩⟩⟩⟩
  · exact Eq.mp (show culletref03_ElementsTo.M R r_0 w = _ by kernel_rfl) h

noncomputable def culletref03_LogList.body : Code := (Tryd.f59.body).getD .skip
def culletref03_LogList.b1 (R : Ending → World → Prop) (k1 : (Sl × Sl × Int × Int × Unit) → World → Prop) (list_1 : Sl) (t7 : Sl) (t8 : Int) (t9 : Int) (w : World) : Prop :=
  Cd (decide (t9 < t8)) (Pu Tryd.prog (Instr.indexAt 34 (.slice t7.base t7.len t7.cap) (.int .i64 t9)) (.one (.at .addr)) (fun (x8 : Addr) w9 =>
  Rd Tryd.prog (Instr.loadAt 187 (.pointer (some x8))) (.one (.at (.int .u16))) (fun (x10 : Int) w11 =>
  Pu Tryd.prog (Instr.indexAt 24 (.slice list_1.base list_1.len list_1.cap) (.int .u16 x10)) (.one (.at .addr)) (fun (x12 : Addr) w13 =>
  Wu Tryd.prog (Instr.storeAt 3 (.pointer (some x12)) (.int .i64 t9)) (fun w14 =>
  k1 (list_1, t7, t8, (IntKind.wrap .i64 (t9 + 1)), ()) w14) w13) w11) w9) w) (R (.returned (.slice list_1.base list_1.len list_1.cap)) w)
def culletref03_LogList.l1 (R : Ending → World → Prop) : (Sl × Sl × Int × Int × Unit) → World → Prop := loopW (fun k1 s w => culletref03_LogList.b1 R k1 s.1 s.2.1 s.2.2.1 s.2.2.2.1 w)
def culletref03_LogList.M (R : Ending → World → Prop)  (w : World) : Prop :=
  Wr Tryd.prog (Instr.makeSlice 24 (.int .i64 65536) (.int .i64 65536)) (.one (.at .sl)) (fun (x1 : Sl) w2 =>
  Pu Tryd.prog (Instr.indexAt 24 (.slice x1.base x1.len x1.cap) (.int .i64 0)) (.one (.at .addr)) (fun (x3 : Addr) w4 =>
  Wu Tryd.prog (Instr.storeAt 3 (.pointer (some x3)) (.int .i64 (-1))) (fun w5 =>
  Cl Tryd.prog 60 #[] (.one (.at .sl)) (fun (x6 : Sl) w7 =>
  culletref03_LogList.l1 R (x1, x6, ((x6.len : Nat) : Int), 0, ()) w7) w5) w4) w2) w
noncomputable def culletref03_LogList.ann (R : Ending → World → Prop) : Ann :=
  .seq (.reg (.op 0 .now (.done))) (.seq (.reg (.op 0 (.wr (.one (.at .sl))) (.op 1 .now (.done)))) (.seq (.reg (.op 0 .now (.op 1 (.pu (.one (.at .addr))) (.op 2 .wu (.done))))) (.seq (.seq (.reg (.op 0 (.cl (.one (.at .sl))) (.op 1 .now (.op 2 .now (.done))))) (.block (.loop [(1, .at .sl), (7, .at .sl), (8, .at (.int .i64)), (9, .at (.int .i64))] (fun k1 s w => culletref03_LogList.b1 R k1 s.1 s.2.1 s.2.2.1 s.2.2.2.1 w) (fun k1 => .seq (.reg (.op 0 .now (.done))) (.seq (.cond (.leaf) (.leaf)) (.seq (.block (.seq (.reg (.op 0 .now (.op 1 (.pu (.one (.at .addr))) (.op 2 (.rd (.one (.at (.int .u16)))) (.op 3 .now (.op 4 .now (.done))))))) (.reg (.op 0 .now (.op 1 .now (.op 2 .now (.op 3 (.pu (.one (.at .addr))) (.op 4 .wu (.done))))))))) (.reg (.op 0 .now (.op 1 .now (.done)))))))))) (.seq (.reg (.op 0 .now (.op 1 .now (.done)))) (.leaf)))))
theorem culletref03_LogList.run (R : Ending → World → Prop)  (w : World) (h : culletref03_LogList.M R  w) : Calls Tryd.prog 59 #[] w R := by
  refine calls_of_lift mix_eq Tryd.func59 (c := culletref03_LogList.body) (by kernel_rfl) [.at .sl] (culletref03_LogList.ann R) 20 Tryd.ntmps59 [.tmp 0] (by kernel_rfl) (Nat.le_of_ble_eq_true (by kernel_rfl)) ?_ ?_
  · exact ⟨trivial, ⟨trivial, ⟨trivial, ⟨⟨trivial, (fun k1 => ⟨fun s w h => Eq.mp (by kernel_rfl) h, ⟨trivial, ⟨⟨trivial, trivial⟩, ⟨⟨trivial, trivial⟩, trivial⟩⟩⟩⟩)⟩, ⟨trivial, trivial⟩⟩⟩⟩⟩
  · exact Eq.mp (show culletref03_LogList.M R  w = _ by kernel_rfl) h

noncomputable def culletref03_Exps.body : Code := (Tryd.f60.body).getD .skip
def culletref03_Exps.j1 (R : Ending → World → Prop)  (k1 : (Sl × Int × Int × Unit) → World → Prop) (list_1 : Sl) (x_2 : Int) (e_3 : Int) (w : World) : Prop :=
  k1 (list_1, x_2, (IntKind.wrap .i64 (e_3 + 1)), ()) w
def culletref03_Exps.b1 (R : Ending → World → Prop) (k1 : (Sl × Int × Int × Unit) → World → Prop) (list_1 : Sl) (x_2 : Int) (e_3 : Int) (w : World) : Prop :=
  Cd (decide (e_3 < 65535)) (Pu Tryd.prog (Instr.indexAt 34 (.slice list_1.base list_1.len list_1.cap) (.int .i64 e_3)) (.one (.at .addr)) (fun (x3 : Addr) w4 =>
  Wu Tryd.prog (Instr.storeAt 187 (.pointer (some x3)) (.int .u16 (IntKind.wrap .u16 x_2))) (fun w5 =>
  Cd (decide ((shL .u32 x_2 1) > 65535)) (culletref03_Exps.j1 R k1 list_1 (bXor .u32 (shL .u32 x_2 1) 65581) e_3 w5) (culletref03_Exps.j1 R k1 list_1 (shL .u32 x_2 1) e_3 w5)) w4) w) (R (.returned (.slice list_1.base list_1.len list_1.cap)) w)
def culletref03_Exps.l1 (R : Ending → World → Prop) : (Sl × Int × Int × Unit) → World → Prop := loopW (fun k1 s w => culletref03_Exps.b1 R k1 s.1 s.2.1 s.2.2.1 w)
def culletref03_Exps.M (R : Ending → World → Prop)  (w : World) : Prop :=
  Wr Tryd.prog (Instr.makeSlice 34 (.int .i64 65535) (.int .i64 65535)) (.one (.at .sl)) (fun (x1 : Sl) w2 =>
  culletref03_Exps.l1 R (x1, 1, 0, ()) w2) w
noncomputable def culletref03_Exps.ann (R : Ending → World → Prop) : Ann :=
  .seq (.reg (.op 0 .now (.done))) (.seq (.reg (.op 0 (.wr (.one (.at .sl))) (.op 1 .now (.done)))) (.seq (.reg (.op 0 .now (.done))) (.seq (.seq (.reg (.op 0 .now (.done))) (.block (.loop [(1, .at .sl), (2, .at (.int .u32)), (3, .at (.int .i64))] (fun k1 s w => culletref03_Exps.b1 R k1 s.1 s.2.1 s.2.2.1 w) (fun k1 => .seq (.seq (.reg (.op 0 .now (.op 1 .now (.done)))) (.cond (.leaf) (.leaf))) (.join [(1, .at .sl), (2, .at (.int .u32)), (3, .at (.int .i64))] (fun s w => culletref03_Exps.j1 R k1 s.1 s.2.1 s.2.2.1 w) (.block (.seq (.reg (.op 0 .now (.op 1 .now (.op 2 .now (.op 3 .now (.op 4 (.pu (.one (.at .addr))) (.op 5 .wu (.done)))))))) (.seq (.reg (.op 0 .now (.op 1 .now (.op 2 .now (.done))))) (.seq (.reg (.op 0 .now (.op 1 .now (.done)))) (.cond (.reg (.op 0 .now (.op 1 .now (.op 2 .now (.done))))) (.leaf)))))) (.reg (.op 0 .now (.op 1 .now (.op 2 .now (.done)))))))))) (.seq (.reg (.op 0 .now (.op 1 .now (.done)))) (.leaf)))))
theorem culletref03_Exps.run (R : Ending → World → Prop)  (w : World) (h : culletref03_Exps.M R  w) : Calls Tryd.prog 60 #[] w R := by
  refine calls_of_lift mix_eq Tryd.func60 (c := culletref03_Exps.body) (by kernel_rfl) [.at .sl] (culletref03_Exps.ann R) 21 Tryd.ntmps60 [.tmp 0] (by kernel_rfl) (Nat.le_of_ble_eq_true (by kernel_rfl)) ?_ ?_
  · exact ⟨trivial, ⟨trivial, ⟨trivial, ⟨⟨trivial, (fun k1 => ⟨fun s w h => Eq.mp (by kernel_rfl) h, ⟨⟨trivial, ⟨trivial, trivial⟩⟩, ⟨fun s w h => Eq.mp (by kernel_rfl) h, ⟨trivial, ⟨trivial, ⟨trivial, ⟨trivial, trivial⟩⟩⟩⟩, trivial⟩⟩⟩)⟩, ⟨trivial, trivial⟩⟩⟩⟩⟩
  · exact Eq.mp (show culletref03_Exps.M R  w = _ by kernel_rfl) h

noncomputable def culletref11_Params.body : Code := (Tryd.f61.body).getD .skip
def culletref11_Params.j2 (R : Ending → World → Prop)  (t32 : Bool) (w : World) : Prop :=
  Cd t32 (R (.returned (.int .i64 4)) w) (R (.returned (.int .i64 0)) w)
def culletref11_Params.j1 (R : Ending → World → Prop)  (k_1 : Int) (m_2 : Int) (t12 : Bool) (w : World) : Prop :=
  Cd t12 (R (.returned (.int .i64 2)) w) (Cd (decide (k_1 < 1)) (culletref11_Params.j2 R true w) (Cd (decide (m_2 < 1)) (culletref11_Params.j2 R true w) (Cd (decide (k_1 > 256)) (culletref11_Params.j2 R true w) (Cd (decide (m_2 > 256)) (culletref11_Params.j2 R true w) (culletref11_Params.j2 R (decide ((IntKind.wrap .i64 (k_1 + m_2)) > 256)) w)))))
def culletref11_Params.M (R : Ending → World → Prop) (f_0 : Int) (k_1 : Int) (m_2 : Int) (w : World) : Prop :=
  Cd (f_0 != 0) (culletref11_Params.j1 R k_1 m_2 (f_0 != 1) w) (culletref11_Params.j1 R k_1 m_2 false w)
noncomputable def culletref11_Params.ann (R : Ending → World → Prop) : Ann :=
  .seq (.reg (.op 0 .now (.done))) (.seq (.join [(1, .at (.int .i64)), (2, .at (.int .i64)), (12, .at .bool)] (fun s w => culletref11_Params.j1 R s.1 s.2.1 s.2.2.1 w) (.reg (.op 0 .now (.op 1 .now (.op 2 .now (.split 2 (.op 3 .now (.op 4 .now (.op 5 .now (.done)))) (.skip 3 (.skip 4 (.op 5 .now (.done))))))))) (.cond (.seq (.reg (.op 0 .now (.done))) (.leaf)) (.leaf))) (.seq (.join [(32, .at .bool)] (fun s w => culletref11_Params.j2 R s.1 w) (.reg (.op 0 .now (.op 1 .now (.op 2 .now (.split 2 (.skip 3 (.skip 4 (.op 5 .now (.op 6 .now (.skip 7 (.skip 8 (.op 9 .now (.op 10 .now (.skip 11 (.skip 12 (.op 13 .now (.op 14 .now (.skip 15 (.skip 16 (.skip 17 (.skip 18 (.op 19 .now (.done)))))))))))))))))) (.op 3 .now (.op 4 .now (.op 5 .now (.op 6 .now (.split 6 (.skip 7 (.skip 8 (.op 9 .now (.op 10 .now (.skip 11 (.skip 12 (.op 13 .now (.op 14 .now (.skip 15 (.skip 16 (.skip 17 (.skip 18 (.op 19 .now (.done)))))))))))))) (.op 7 .now (.op 8 .now (.op 9 .now (.op 10 .now (.split 10 (.skip 11 (.skip 12 (.op 13 .now (.op 14 .now (.skip 15 (.skip 16 (.skip 17 (.skip 18 (.op 19 .now (.done)))))))))) (.op 11 .now (.op 12 .now (.op 13 .now (.op 14 .now (.split 14 (.skip 15 (.skip 16 (.skip 17 (.skip 18 (.op 19 .now (.done)))))) (.op 15 .now (.op 16 .now (.op 17 .now (.op 18 .now (.op 19 .now (.done)))))))))))))))))))))))))) (.cond (.seq (.reg (.op 0 .now (.done))) (.leaf)) (.leaf))) (.seq (.reg (.op 0 .now (.done))) (.leaf))))
theorem culletref11_Params.run (R : Ending → World → Prop) (f_0 : Int) (k_1 : Int) (m_2 : Int) (w : World) (h : culletref11_Params.M R f_0 k_1 m_2 w) : Calls Tryd.prog 61 #[(.int .i64 f_0), (.int .i64 k_1), (.int .i64 m_2)] w R := by
  refine calls_of_lift mix_eq Tryd.func61 (c := culletref11_Params.body) (by kernel_rfl) [.at (.int .i64)] (culletref11_Params.ann R) 33 Tryd.ntmps61 [.tmp 6] (by kernel_rfl) (Nat.le_of_ble_eq_true (by kernel_rfl)) ?_ ?_
  · exact ⟨trivial, ⟨⟨fun s w h => Eq.mp (by kernel_rfl) h, trivial, ⟨⟨trivial, trivial⟩, trivial⟩⟩, ⟨⟨fun s w h => Eq.mp (by kernel_rfl) h, trivial, ⟨⟨trivial, trivial⟩, trivial⟩⟩, ⟨trivial, trivial⟩⟩⟩⟩
  · exact Eq.mp (show culletref11_Params.M R f_0 k_1 m_2 w = _ by kernel_rfl) h

noncomputable def culletref11_Parity.body : Code := (Tryd.f62.body).getD .skip
def culletref11_Parity.b1 (R : Ending → World → Prop) (k1 : (Int × Int × Int × Sl × Sl × Int × Unit) → World → Prop) (f_0 : Int) (k_1 : Int) (m_2 : Int) (rows_8 : Sl) (data_10 : Sl) (j_11 : Int) (w : World) : Prop :=
  Cd (decide (j_11 < m_2)) (Cl Tryd.prog 69 #[(.int .i64 f_0), (.int .i64 k_1), (.slice data_10.base data_10.len data_10.cap), (.int .i64 (IntKind.wrap .i64 (k_1 + j_11)))] (.one (.at .sl)) (fun (x5 : Sl) w6 =>
  Wr Tryd.prog (Instr.buildSlice 91 1 #[(0, (.slice x5.base x5.len x5.cap))]) (.one (.at .sl)) (fun (x7 : Sl) w8 =>
  Wr Tryd.prog (Builtin.append_ #[91, 91] 91 #[(.slice rows_8.base rows_8.len rows_8.cap), (.slice x7.base x7.len x7.cap)]) (.one (.at .sl)) (fun (x9 : Sl) w10 =>
  k1 (f_0, k_1, m_2, x9, data_10, (IntKind.wrap .i64 (j_11 + 1)), ()) w10) w8) w6) w) (R (.returned (.tuple #[(.slice rows_8.base rows_8.len rows_8.cap), (.int .i64 0)])) w)
def culletref11_Parity.l1 (R : Ending → World → Prop) : (Int × Int × Int × Sl × Sl × Int × Unit) → World → Prop := loopW (fun k1 s w => culletref11_Parity.b1 R k1 s.1 s.2.1 s.2.2.1 s.2.2.2.1 s.2.2.2.2.1 s.2.2.2.2.2.1 w)
def culletref11_Parity.M (R : Ending → World → Prop) (f_0 : Int) (k_1 : Int) (m_2 : Int) (w : World) : Prop :=
  Cl Tryd.prog 61 #[(.int .i64 f_0), (.int .i64 k_1), (.int .i64 m_2)] (.one (.at (.int .i64))) (fun (x1 : Int) w2 =>
  Cd (x1 != 0) (R (.returned (.tuple #[(.slice none 0 0), (.int .i64 x1)])) w2) (Cl Tryd.prog 68 #[(.int .i64 k_1)] (.one (.at .sl)) (fun (x3 : Sl) w4 =>
  culletref11_Parity.l1 R (f_0, k_1, m_2, ⟨none, 0, 0⟩, x3, 0, ()) w4) w2)) w
noncomputable def culletref11_Parity.ann (R : Ending → World → Prop) : Ann :=
  .seq (.reg (.op 0 .now (.op 1 .now (.done)))) (.seq (.reg (.op 0 .now (.done))) (.seq (.reg (.op 0 .now (.op 1 .now (.op 2 .now (.op 3 (.cl (.one (.at (.int .i64)))) (.op 4 .now (.done))))))) (.seq (.seq (.reg (.op 0 .now (.op 1 .now (.done)))) (.cond (.seq (.reg (.op 0 .now (.op 1 .now (.op 2 .now (.op 3 .now (.done)))))) (.leaf)) (.leaf))) (.seq (.reg (.op 0 .now (.op 1 (.cl (.one (.at .sl))) (.op 2 .now (.done))))) (.seq (.seq (.reg (.op 0 .now (.done))) (.block (.loop [(0, .at (.int .i64)), (1, .at (.int .i64)), (2, .at (.int .i64)), (8, .at .sl), (10, .at .sl), (11, .at (.int .i64))] (fun k1 s w => culletref11_Parity.b1 R k1 s.1 s.2.1 s.2.2.1 s.2.2.2.1 s.2.2.2.2.1 s.2.2.2.2.2.1 w) (fun k1 => .seq (.seq (.reg (.op 0 .now (.op 1 .now (.op 2 .now (.done))))) (.cond (.leaf) (.leaf))) (.seq (.block (.reg (.op 0 .now (.op 1 .now (.op 2 .now (.op 3 .now (.op 4 .now (.op 5 .now (.op 6 .now (.op 7 (.cl (.one (.at .sl))) (.op 8 (.wr (.one (.at .sl))) (.op 9 (.wr (.one (.at .sl))) (.op 10 .now (.done)))))))))))))) (.reg (.op 0 .now (.op 1 .now (.op 2 .now (.done)))))))))) (.seq (.reg (.op 0 .now (.op 1 .now (.op 2 .now (.done))))) (.leaf)))))))
theorem culletref11_Parity.run (R : Ending → World → Prop) (f_0 : Int) (k_1 : Int) (m_2 : Int) (w : World) (h : culletref11_Parity.M R f_0 k_1 m_2 w) : Calls Tryd.prog 62 #[(.int .i64 f_0), (.int .i64 k_1), (.int .i64 m_2)] w R := by
  refine calls_of_lift mix_eq Tryd.func62 (c := culletref11_Parity.body) (by kernel_rfl) [.at .sl, .at (.int .i64)] (culletref11_Parity.ann R) 38 Tryd.ntmps62 [.tmp 6, .tmp 7] (by kernel_rfl) (Nat.le_of_ble_eq_true (by kernel_rfl)) ?_ ?_
  · exact ⟨trivial, ⟨trivial, ⟨trivial, ⟨⟨trivial, ⟨⟨trivial, trivial⟩, trivial⟩⟩, ⟨trivial, ⟨⟨trivial, (fun k1 => ⟨fun s w h => Eq.mp (by kernel_rfl) h, ⟨⟨trivial, ⟨trivial, trivial⟩⟩, ⟨trivial, trivial⟩⟩⟩)⟩, ⟨trivial, trivial⟩⟩⟩⟩⟩⟩⟩
  · exact Eq.mp (show culletref11_Parity.M R f_0 k_1 m_2 w = _ by kernel_rfl) h

noncomputable def shape_family.body : Code := (Tryd.f63.body).getD .skip
def shape_family.M (R : Ending → World → Prop) (f_0 : Int) (w : World) : Prop :=
  Cd (decide (f_0 ≥ 0)) (R (.returned (.bool (decide (f_0 ≤ 2)))) w) (R (.returned (.bool false)) w)
noncomputable def shape_family.ann (R : Ending → World → Prop) : Ann :=
  .seq (.reg (.op 0 .now (.done))) (.seq (.reg (.op 0 .now (.op 1 .now (.op 2 .now (.split 2 (.op 3 .now (.op 4 .now (.op 5 .now (.op 6 .now (.done))))) (.skip 3 (.skip 4 (.op 5 .now (.op 6 .now (.done)))))))))) (.leaf))
theorem shape_family.run (R : Ending → World → Prop) (f_0 : Int) (w : World) (h : shape_family.M R f_0 w) : Calls Tryd.prog 63 #[(.int .i64 f_0)] w R := by
  refine calls_of_lift mix_eq Tryd.func63 (c := shape_family.body) (by kernel_rfl) [.at .bool] (shape_family.ann R) 9 Tryd.ntmps63 [.tmp 2] (by kernel_rfl) (Nat.le_of_ble_eq_true (by kernel_rfl)) ?_ ?_
  · exact ⟨trivial, ⟨trivial, trivial⟩⟩
  · exact Eq.mp (show shape_family.M R f_0 w = _ by kernel_rfl) h

noncomputable def shape_pow2.body : Code := (Tryd.f64.body).getD .skip
def shape_pow2.b1 (R : Ending → World → Prop) (k1 : (Int × Int × Unit) → World → Prop) (n_0 : Int) (p_3 : Int) (w : World) : Prop :=
  Cd (decide (p_3 < n_0)) (k1 (n_0, (shL .i64 p_3 1), ()) w) (R (.returned (.int .i64 p_3)) w)
def shape_pow2.l1 (R : Ending → World → Prop) : (Int × Int × Unit) → World → Prop := loopW (fun k1 s w => shape_pow2.b1 R k1 s.1 s.2.1 w)
def shape_pow2.M (R : Ending → World → Prop) (n_0 : Int) (w : World) : Prop :=
  shape_pow2.l1 R (n_0, 1, ()) w
noncomputable def shape_pow2.ann (R : Ending → World → Prop) : Ann :=
  .seq (.reg (.op 0 .now (.done))) (.seq (.reg (.op 0 .now (.done))) (.seq (.block (.loop [(0, .at (.int .i64)), (3, .at (.int .i64))] (fun k1 s w => shape_pow2.b1 R k1 s.1 s.2.1 w) (fun k1 => .seq (.seq (.reg (.op 0 .now (.op 1 .now (.op 2 .now (.done))))) (.cond (.leaf) (.leaf))) (.block (.reg (.op 0 .now (.op 1 .now (.op 2 .now (.done))))))))) (.seq (.reg (.op 0 .now (.op 1 .now (.done)))) (.leaf))))
theorem shape_pow2.run (R : Ending → World → Prop) (n_0 : Int) (w : World) (h : shape_pow2.M R n_0 w) : Calls Tryd.prog 64 #[(.int .i64 n_0)] w R := by
  refine calls_of_lift mix_eq Tryd.func64 (c := shape_pow2.body) (by kernel_rfl) [.at (.int .i64)] (shape_pow2.ann R) 10 Tryd.ntmps64 [.tmp 2] (by kernel_rfl) (Nat.le_of_ble_eq_true (by kernel_rfl)) ?_ ?_
  · exact ⟨trivial, ⟨trivial, ⟨(fun k1 => ⟨fun s w h => Eq.mp (by kernel_rfl) h, ⟨⟨trivial, ⟨trivial, trivial⟩⟩, trivial⟩⟩), ⟨trivial, trivial⟩⟩⟩⟩
  · exact Eq.mp (show shape_pow2.M R n_0 w = _ by kernel_rfl) h

noncomputable def trie_fresh.body : Code := (Tryd.f65.body).getD .skip
def trie_fresh.M (R : Ending → World → Prop)  (w : World) : Prop :=
  Wr Tryd.prog (Instr.makeMap 190 none) (.one (.at .map)) (fun (x1 : (Option Nat)) w2 =>
  Wr Tryd.prog (Instr.box 192 (.agg #[(.map x1), (.bool false), (.slice none 0 0), (.int .i64 0)])) (.one (.at .addr)) (fun (x3 : Addr) w4 =>
  R (.returned (.pointer (some x3))) w4) w2) w
noncomputable def trie_fresh.ann (R : Ending → World → Prop) : Ann :=
  .seq (.reg (.op 0 .now (.done))) (.seq (.reg (.op 0 (.wr (.one (.at .map))) (.op 1 .now (.op 2 (.wr (.one (.at .addr))) (.op 3 .now (.done)))))) (.leaf))
theorem trie_fresh.run (R : Ending → World → Prop)  (w : World) (h : trie_fresh.M R  w) : Calls Tryd.prog 65 #[] w R := by
  refine calls_of_lift mix_eq Tryd.func65 (c := trie_fresh.body) (by kernel_rfl) [.at .ptr] (trie_fresh.ann R) 4 Tryd.ntmps65 [.tmp 0] (by kernel_rfl) (Nat.le_of_ble_eq_true (by kernel_rfl)) ?_ ?_
  · exact ⟨trivial, ⟨trivial, trivial⟩⟩
  · exact Eq.mp (show trie_fresh.M R  w = _ by kernel_rfl) h

noncomputable def culletref03_Basis.body : Code := (Tryd.f67.body).getD .skip
def culletref03_Basis.b1 (R : Ending → World → Prop) (k1 : (Sl × Int × Unit) → World → Prop) (b_1 : Sl) (i_2 : Int) (w : World) : Prop :=
  Cd (decide (i_2 < 16)) (Pu Tryd.prog (Instr.indexAt 34 (.slice b_1.base b_1.len b_1.cap) (.int .i64 (IntKind.wrap .i64 (i_2 - 1)))) (.one (.at .addr)) (fun (x3 : Addr) w4 =>
  Rd Tryd.prog (Instr.loadAt 187 (.pointer (some x3))) (.one (.at (.int .u16))) (fun (x5 : Int) w6 =>
  Cl Tryd.prog 70 #[(.int .u16 x5)] (.tup [.at (.int .u16), .at (.int .i64)]) (fun x7 w8 =>
  Wr Tryd.prog (Instr.buildSlice 34 1 #[(0, (.int .u16 x7.1))]) (.one (.at .sl)) (fun (x9 : Sl) w10 =>
  Wr Tryd.prog (Builtin.append_ #[34, 34] 34 #[(.slice b_1.base b_1.len b_1.cap), (.slice x9.base x9.len x9.cap)]) (.one (.at .sl)) (fun (x11 : Sl) w12 =>
  k1 (x11, (IntKind.wrap .i64 (i_2 + 1)), ()) w12) w10) w8) w6) w4) w) (R (.returned (.slice b_1.base b_1.len b_1.cap)) w)
def culletref03_Basis.l1 (R : Ending → World → Prop) : (Sl × Int × Unit) → World → Prop := loopW (fun k1 s w => culletref03_Basis.b1 R k1 s.1 s.2.1 w)
def culletref03_Basis.M (R : Ending → World → Prop)  (w : World) : Prop :=
  Wr Tryd.prog (Instr.buildSlice 34 1 #[(0, (.int .u16 1))]) (.one (.at .sl)) (fun (x1 : Sl) w2 =>
  culletref03_Basis.l1 R (x1, 1, ()) w2) w
noncomputable def culletref03_Basis.ann (R : Ending → World → Prop) : Ann :=
  .seq (.reg (.op 0 .now (.done))) (.seq (.reg (.op 0 (.wr (.one (.at .sl))) (.op 1 .now (.done)))) (.seq (.seq (.reg (.op 0 .now (.done))) (.block (.loop [(1, .at .sl), (2, .at (.int .i64))] (fun k1 s w => culletref03_Basis.b1 R k1 s.1 s.2.1 w) (fun k1 => .seq (.seq (.reg (.op 0 .now (.op 1 .now (.done)))) (.cond (.leaf) (.leaf))) (.seq (.block (.seq (.reg (.op 0 .now (.op 1 .now (.op 2 .now (.op 3 (.pu (.one (.at .addr))) (.op 4 (.rd (.one (.at (.int .u16)))) (.op 5 (.cl (.tup [.at (.int .u16), .at (.int .i64)])) (.op 6 .now (.op 7 .now (.op 8 .now (.op 9 .now (.op 10 .now (.done))))))))))))) (.reg (.op 0 .now (.op 1 .now (.op 2 (.wr (.one (.at .sl))) (.op 3 (.wr (.one (.at .sl))) (.op 4 .now (.done))))))))) (.reg (.op 0 .now (.op 1 .now (.op 2 .now (.done)))))))))) (.seq (.reg (.op 0 .now (.op 1 .now (.done)))) (.leaf))))
theorem culletref03_Basis.run (R : Ending → World → Prop)  (w : World) (h : culletref03_Basis.M R  w) : Calls Tryd.prog 67 #[] w R := by
  refine calls_of_lift mix_eq Tryd.func67 (c := culletref03_Basis.body) (by kernel_rfl) [.at .sl] (culletref03_Basis.ann R) 24 Tryd.ntmps67 [.tmp 0] (by kernel_rfl) (Nat.le_of_ble_eq_true (by kernel_rfl)) ?_ ?_
  · exact ⟨trivial, ⟨trivial, ⟨⟨trivial, (fun k1 => ⟨fun s w h => Eq.mp (by kernel_rfl) h, ⟨⟨trivial, ⟨trivial, trivial⟩⟩, ⟨⟨trivial, trivial⟩, trivial⟩⟩⟩)⟩, ⟨trivial, trivial⟩⟩⟩⟩
  · exact Eq.mp (show culletref03_Basis.M R  w = _ by kernel_rfl) h

noncomputable def culletref11_upTo.body : Code := (Tryd.f68.body).getD .skip
def culletref11_upTo.b1 (R : Ending → World → Prop) (k1 : (Int × Sl × Int × Unit) → World → Prop) (n_0 : Int) (l_3 : Sl) (i_4 : Int) (w : World) : Prop :=
  Cd (decide (i_4 < n_0)) (Pu Tryd.prog (Instr.indexAt 24 (.slice l_3.base l_3.len l_3.cap) (.int .i64 i_4)) (.one (.at .addr)) (fun (x3 : Addr) w4 =>
  Wu Tryd.prog (Instr.storeAt 3 (.pointer (some x3)) (.int .i64 i_4)) (fun w5 =>
  k1 (n_0, l_3, (IntKind.wrap .i64 (i_4 + 1)), ()) w5) w4) w) (R (.returned (.slice l_3.base l_3.len l_3.cap)) w)
def culletref11_upTo.l1 (R : Ending → World → Prop) : (Int × Sl × Int × Unit) → World → Prop := loopW (fun k1 s w => culletref11_upTo.b1 R k1 s.1 s.2.1 s.2.2.1 w)
def culletref11_upTo.M (R : Ending → World → Prop) (n_0 : Int) (w : World) : Prop :=
  Wr Tryd.prog (Instr.makeSlice 24 (.int .i64 n_0) (.int .i64 n_0)) (.one (.at .sl)) (fun (x1 : Sl) w2 =>
  culletref11_upTo.l1 R (n_0, x1, 0, ()) w2) w
noncomputable def culletref11_upTo.ann (R : Ending → World → Prop) : Ann :=
  .seq (.reg (.op 0 .now (.done))) (.seq (.reg (.op 0 .now (.op 1 (.wr (.one (.at .sl))) (.op 2 .now (.done))))) (.seq (.seq (.reg (.op 0 .now (.done))) (.block (.loop [(0, .at (.int .i64)), (3, .at .sl), (4, .at (.int .i64))] (fun k1 s w => culletref11_upTo.b1 R k1 s.1 s.2.1 s.2.2.1 w) (fun k1 => .seq (.seq (.reg (.op 0 .now (.op 1 .now (.op 2 .now (.done))))) (.cond (.leaf) (.leaf))) (.seq (.block (.reg (.op 0 .now (.op 1 .now (.op 2 .now (.op 3 (.pu (.one (.at .addr))) (.op 4 .wu (.done)))))))) (.reg (.op 0 .now (.op 1 .now (.op 2 .now (.done)))))))))) (.seq (.reg (.op 0 .now (.op 1 .now (.done)))) (.leaf))))
theorem culletref11_upTo.run (R : Ending → World → Prop) (n_0 : Int) (w : World) (h : culletref11_upTo.M R n_0 w) : Calls Tryd.prog 68 #[(.int .i64 n_0)] w R := by
  refine calls_of_lift mix_eq Tryd.func68 (c := culletref11_upTo.body) (by kernel_rfl) [.at .sl] (culletref11_upTo.ann R) 17 Tryd.ntmps68 [.tmp 2] (by kernel_rfl) (Nat.le_of_ble_eq_true (by kernel_rfl)) ?_ ?_
  · exact ⟨trivial, ⟨trivial, ⟨⟨trivial, (fun k1 => ⟨fun s w h => Eq.mp (by kernel_rfl) h, ⟨⟨trivial, ⟨trivial, trivial⟩⟩, ⟨trivial, trivial⟩⟩⟩)⟩, ⟨trivial, trivial⟩⟩⟩⟩
  · exact Eq.mp (show culletref11_upTo.M R n_0 w = _ by kernel_rfl) h

noncomputable def culletref11_Row.body : Code := (Tryd.f69.body).getD .skip
def culletref11_Row.j1 (R : Ending → World → Prop)  (k1 : (Int × Int × Sl × Int × Sl × Int × Int × Unit) → World → Prop) (k2 : (Int × Int × Sl × Int × Sl × Int × Int × Int × Int × Int × Unit) → World → Prop) (f_0 : Int) (k_1 : Int) (used_2 : Sl) (w_3 : Int) (row_9 : Sl) (over_10 : Int) (i_12 : Int) (top_13 : Int) (low_14 : Int) (l_15 : Int) (w : World) : Prop :=
  k2 (f_0, k_1, used_2, w_3, row_9, over_10, i_12, top_13, low_14, (IntKind.wrap .i64 (l_15 + 1)), ()) w
def culletref11_Row.b2 (R : Ending → World → Prop) (k1 : (Int × Int × Sl × Int × Sl × Int × Int × Unit) → World → Prop) (k2 : (Int × Int × Sl × Int × Sl × Int × Int × Int × Int × Int × Unit) → World → Prop) (f_0 : Int) (k_1 : Int) (used_2 : Sl) (w_3 : Int) (row_9 : Sl) (over_10 : Int) (i_12 : Int) (top_13 : Int) (low_14 : Int) (l_15 : Int) (w : World) : Prop :=
  Cd (decide (l_15 < k_1)) (Cd (l_15 != i_12) (Pu Tryd.prog (Instr.indexAt 24 (.slice used_2.base used_2.len used_2.cap) (.int .i64 l_15)) (.one (.at .addr)) (fun (x15 : Addr) w16 =>
  Rd Tryd.prog (Instr.loadAt 3 (.pointer (some x15))) (.one (.at (.int .i64))) (fun (x17 : Int) w18 =>
  Cl Tryd.prog 73 #[(.int .u8 top_13), (.int .u8 (bXor .u8 (IntKind.wrap .u8 w_3) (IntKind.wrap .u8 x17)))] (.one (.at (.int .u8))) (fun (x19 : Int) w20 =>
  Held w20.drew (fun S21 => Pu Tryd.prog (Instr.indexAt 24 (.slice used_2.base used_2.len used_2.cap) (.int .i64 i_12)) (.one (.at .addr)) (fun (x22 : Addr) w23 =>
  RdS Tryd.prog S21 (Instr.loadAt 3 (.pointer (some x22))) (.one (.at (.int .i64))) (fun (x24 : Int) w25 =>
  Pu Tryd.prog (Instr.indexAt 24 (.slice used_2.base used_2.len used_2.cap) (.int .i64 l_15)) (.one (.at .addr)) (fun (x26 : Addr) w27 =>
  RdS Tryd.prog S21 (Instr.loadAt 3 (.pointer (some x26))) (.one (.at (.int .i64))) (fun (x28 : Int) w29 =>
  Cl Tryd.prog 73 #[(.int .u8 low_14), (.int .u8 (bXor .u8 (IntKind.wrap .u8 x24) (IntKind.wrap .u8 x28)))] (.one (.at (.int .u8))) (fun (x30 : Int) w31 =>
  S21 w31 ∧ (culletref11_Row.j1 R k1 k2 f_0 k_1 used_2 w_3 row_9 over_10 i_12 x19 x30 l_15 w31)) w29) w27) w25) w23) w20.drew)) w18) w16) w) (culletref11_Row.j1 R k1 k2 f_0 k_1 used_2 w_3 row_9 over_10 i_12 top_13 low_14 l_15 w)) (Cl Tryd.prog 74 #[(.int .u8 top_13), (.int .u8 low_14)] (.tup [.at (.int .u8), .at (.int .i64)]) (fun x32 w33 =>
  Pu Tryd.prog (Instr.indexAt 67 (.slice row_9.base row_9.len row_9.cap) (.int .i64 i_12)) (.one (.at .addr)) (fun (x34 : Addr) w35 =>
  Wu Tryd.prog (Instr.storeAt 5 (.pointer (some x34)) (.int .u8 x32.1)) (fun w36 =>
  k1 (f_0, k_1, used_2, w_3, row_9, over_10, (IntKind.wrap .i64 (i_12 + 1)), ()) w36) w35) w33) w)
def culletref11_Row.l2 (R : Ending → World → Prop) (k1 : (Int × Int × Sl × Int × Sl × Int × Int × Unit) → World → Prop) : (Int × Int × Sl × Int × Sl × Int × Int × Int × Int × Int × Unit) → World → Prop := loopW (fun k2 s w => culletref11_Row.b2 R k1 k2 s.1 s.2.1 s.2.2.1 s.2.2.2.1 s.2.2.2.2.1 s.2.2.2.2.2.1 s.2.2.2.2.2.2.1 s.2.2.2.2.2.2.2.1 s.2.2.2.2.2.2.2.2.1 s.2.2.2.2.2.2.2.2.2.1 w)
def culletref11_Row.b1 (R : Ending → World → Prop) (k1 : (Int × Int × Sl × Int × Sl × Int × Int × Unit) → World → Prop) (f_0 : Int) (k_1 : Int) (used_2 : Sl) (w_3 : Int) (row_9 : Sl) (over_10 : Int) (i_12 : Int) (w : World) : Prop :=
  Cd (decide (i_12 < k_1)) (Pu Tryd.prog (Instr.indexAt 24 (.slice used_2.base used_2.len used_2.cap) (.int .i64 i_12)) (.one (.at .addr)) (fun (x7 : Addr) w8 =>
  Rd Tryd.prog (Instr.loadAt 3 (.pointer (some x7))) (.one (.at (.int .i64))) (fun (x9 : Int) w10 =>
  Cl Tryd.prog 72 #[(.int .i64 f_0), (.int .i64 k_1), (.int .i64 x9)] (.one (.at (.int .u8))) (fun (x11 : Int) w12 =>
  Cl Tryd.prog 73 #[(.int .u8 x11), (.int .u8 over_10)] (.one (.at (.int .u8))) (fun (x13 : Int) w14 =>
  culletref11_Row.l2 R k1 (f_0, k_1, used_2, w_3, row_9, over_10, i_12, x13, 1, 0, ()) w14) w12) w10) w8) w) (R (.returned (.slice row_9.base row_9.len row_9.cap)) w)
def culletref11_Row.l1 (R : Ending → World → Prop) : (Int × Int × Sl × Int × Sl × Int × Int × Unit) → World → Prop := loopW (fun k1 s w => culletref11_Row.b1 R k1 s.1 s.2.1 s.2.2.1 s.2.2.2.1 s.2.2.2.2.1 s.2.2.2.2.2.1 s.2.2.2.2.2.2.1 w)
def culletref11_Row.M (R : Ending → World → Prop) (f_0 : Int) (k_1 : Int) (used_2 : Sl) (w_3 : Int) (w : World) : Prop :=
  Wr Tryd.prog (Instr.makeSlice 67 (.int .i64 k_1) (.int .i64 k_1)) (.one (.at .sl)) (fun (x1 : Sl) w2 =>
  Cl Tryd.prog 72 #[(.int .i64 f_0), (.int .i64 k_1), (.int .i64 w_3)] (.one (.at (.int .u8))) (fun (x3 : Int) w4 =>
  Cl Tryd.prog 71 #[(.int .u8 x3)] (.tup [.at (.int .u8), .at (.int .i64)]) (fun x5 w6 =>
  culletref11_Row.l1 R (f_0, k_1, used_2, w_3, x1, x5.1, 0, ()) w6) w4) w2) w
noncomputable def culletref11_Row.ann (R : Ending → World → Prop) : Ann :=
  .seq (.reg (.op 0 .now (.done))) (.seq (.reg (.op 0 .now (.op 1 (.wr (.one (.at .sl))) (.op 2 .now (.done))))) (.seq (.reg (.op 0 .now (.op 1 .now (.op 2 .now (.op 3 (.cl (.one (.at (.int .u8)))) (.op 4 (.cl (.tup [.at (.int .u8), .at (.int .i64)])) (.op 5 .now (.op 6 .now (.op 7 .now (.op 8 .now (.op 9 .now (.done)))))))))))) (.seq (.seq (.reg (.op 0 .now (.done))) (.block (.loop [(0, .at (.int .i64)), (1, .at (.int .i64)), (2, .at .sl), (3, .at (.int .i64)), (9, .at .sl), (10, .at (.int .u8)), (12, .at (.int .i64))] (fun k1 s w => culletref11_Row.b1 R k1 s.1 s.2.1 s.2.2.1 s.2.2.2.1 s.2.2.2.2.1 s.2.2.2.2.2.1 s.2.2.2.2.2.2.1 w) (fun k1 => .seq (.seq (.reg (.op 0 .now (.op 1 .now (.op 2 .now (.done))))) (.cond (.leaf) (.leaf))) (.seq (.block (.seq (.reg (.op 0 .now (.op 1 .now (.op 2 .now (.op 3 .now (.op 4 (.pu (.one (.at .addr))) (.op 5 (.rd (.one (.at (.int .i64)))) (.op 6 (.cl (.one (.at (.int .u8)))) (.op 7 .now (.op 8 (.cl (.one (.at (.int .u8)))) (.op 9 .now (.done)))))))))))) (.seq (.reg (.op 0 .now (.done))) (.seq (.seq (.reg (.op 0 .now (.done))) (.block (.loop [(0, .at (.int .i64)), (1, .at (.int .i64)), (2, .at .sl), (3, .at (.int .i64)), (9, .at .sl), (10, .at (.int .u8)), (12, .at (.int .i64)), (13, .at (.int .u8)), (14, .at (.int .u8)), (15, .at (.int .i64))] (fun k2 s w => culletref11_Row.b2 R k1 k2 s.1 s.2.1 s.2.2.1 s.2.2.2.1 s.2.2.2.2.1 s.2.2.2.2.2.1 s.2.2.2.2.2.2.1 s.2.2.2.2.2.2.2.1 s.2.2.2.2.2.2.2.2.1 s.2.2.2.2.2.2.2.2.2.1 w) (fun k2 => .seq (.seq (.reg (.op 0 .now (.op 1 .now (.op 2 .now (.done))))) (.cond (.leaf) (.leaf))) (.join [(0, .at (.int .i64)), (1, .at (.int .i64)), (2, .at .sl), (3, .at (.int .i64)), (9, .at .sl), (10, .at (.int .u8)), (12, .at (.int .i64)), (13, .at (.int .u8)), (14, .at (.int .u8)), (15, .at (.int .i64))] (fun s w => culletref11_Row.j1 R k1 k2 s.1 s.2.1 s.2.2.1 s.2.2.2.1 s.2.2.2.2.1 s.2.2.2.2.2.1 s.2.2.2.2.2.2.1 s.2.2.2.2.2.2.2.1 s.2.2.2.2.2.2.2.2.1 s.2.2.2.2.2.2.2.2.2.1 w) (.block (.seq (.reg (.op 0 .now (.op 1 .now (.op 2 .now (.done))))) (.cond (.seq (.reg (.op 0 .now (.op 1 .now (.op 2 .now (.op 3 .now (.op 4 .now (.op 5 (.pu (.one (.at .addr))) (.op 6 (.rd (.one (.at (.int .i64)))) (.op 7 .now (.op 8 .now (.op 9 (.cl (.one (.at (.int .u8)))) (.op 10 .now (.done))))))))))))) (.regD (.op 0 .now (.op 1 .now (.op 2 .now (.op 3 (.pu (.one (.at .addr))) (.op 4 (.rd (.one (.at (.int .i64)))) (.op 5 .now (.op 6 .now (.op 7 .now (.op 8 (.pu (.one (.at .addr))) (.op 9 (.rd (.one (.at (.int .i64)))) (.op 10 .now (.op 11 .now (.op 12 (.cl (.one (.at (.int .u8)))) (.op 13 .now (.done))))))))))))))))) (.leaf)))) (.reg (.op 0 .now (.op 1 .now (.op 2 .now (.done)))))))))) (.reg (.op 0 .now (.op 1 .now (.op 2 .now (.op 3 .now (.op 4 (.cl (.tup [.at (.int .u8), .at (.int .i64)])) (.op 5 .now (.op 6 .now (.op 7 .now (.op 8 (.pu (.one (.at .addr))) (.op 9 .wu (.done)))))))))))))))) (.reg (.op 0 .now (.op 1 .now (.op 2 .now (.done)))))))))) (.seq (.reg (.op 0 .now (.op 1 .now (.done)))) (.leaf)))))
theorem culletref11_Row.run (R : Ending → World → Prop) (f_0 : Int) (k_1 : Int) (used_2 : Sl) (w_3 : Int) (w : World) (h : culletref11_Row.M R f_0 k_1 used_2 w_3 w) : Calls Tryd.prog 69 #[(.int .i64 f_0), (.int .i64 k_1), (.slice used_2.base used_2.len used_2.cap), (.int .i64 w_3)] w R := by
  refine calls_of_lift mix_eq Tryd.func69 (c := culletref11_Row.body) (by kernel_rfl) [.at .sl] (culletref11_Row.ann R) 81 Tryd.ntmps69 [.tmp 8] (by kernel_rfl) (Nat.le_of_ble_eq_true (by kernel_rfl)) ?_ ?_
  · exact ⟨trivial, ⟨trivial, ⟨trivial, ⟨⟨trivial, (fun k1 => ⟨fun s w h => Eq.mp (by kernel_rfl) h, ⟨⟨trivial, ⟨trivial, trivial⟩⟩, ⟨⟨trivial, ⟨trivial, ⟨⟨trivial, (fun k2 => ⟨fun s w h => Eq.mp (by kernel_rfl) h, ⟨⟨trivial, ⟨trivial, trivial⟩⟩, ⟨fun s w h => Eq.mp (by kernel_rfl) h, ⟨trivial, ⟨⟨trivial, (show Region.noSelect _ = true by kernel_rfl)⟩, trivial⟩⟩, trivial⟩⟩⟩)⟩, trivial⟩⟩⟩, trivial⟩⟩⟩)⟩, ⟨trivial, trivial⟩⟩⟩⟩⟩
  · exact Eq.mp (show culletref11_Row.M R f_0 k_1 used_2 w_3 w = _ by kernel_rfl) h

noncomputable def culletref03_Root.body : Code := (Tryd.f70.body).getD .skip
def culletref03_Root.j1 (R : Ending → World → Prop)  (k1 : (Int × Addr × Addr × Int × Unit) → World → Prop) (a_0 : Int) (image_4 : Addr) (from_5 : Addr) (j_6 : Int) (w : World) : Prop :=
  k1 (a_0, image_4, from_5, (IntKind.wrap .i64 (j_6 + 1)), ()) w
def culletref03_Root.j2 (R : Ending → World → Prop)  (k1 : (Int × Addr × Addr × Int × Unit) → World → Prop) (k2 : (Int × Addr × Addr × Int × Int × Int × Int × Unit) → World → Prop) (a_0 : Int) (image_4 : Addr) (from_5 : Addr) (j_6 : Int) (y_7 : Int) (v_8 : Int) (h_9 : Int) (w : World) : Prop :=
  k2 (a_0, image_4, from_5, j_6, y_7, v_8, (IntKind.wrap .i64 (h_9 - 1)), ()) w
def culletref03_Root.b2 (R : Ending → World → Prop) (k1 : (Int × Addr × Addr × Int × Unit) → World → Prop) (k2 : (Int × Addr × Addr × Int × Int × Int × Int × Unit) → World → Prop) (a_0 : Int) (image_4 : Addr) (from_5 : Addr) (j_6 : Int) (y_7 : Int) (v_8 : Int) (h_9 : Int) (w : World) : Prop :=
  Cd (decide (h_9 ≥ 0)) (Pu Tryd.prog (do eqGuard .shr 187 (.tmp 30) (.tmp 32) (.int .u16 v_8) (.int .u64 (IntKind.wrap .u64 h_9)); binOp .shr 187 (.int .u16 v_8) (.int .u64 (IntKind.wrap .u64 h_9))) (.one (.at (.int .u16))) (fun (x11 : Int) w12 =>
  Cd ((bAnd .u16 x11 1) == 0) (culletref03_Root.j2 R k1 k2 a_0 image_4 from_5 j_6 y_7 v_8 h_9 w12) (Pu Tryd.prog (Instr.indexAt 200 (.pointer (some image_4)) (.int .i64 h_9)) (.one (.at .addr)) (fun (x13 : Addr) w14 =>
  Rd Tryd.prog (Instr.loadAt 187 (.pointer (some x13))) (.one (.at (.int .u16))) (fun (x15 : Int) w16 =>
  Cd (x15 == 0) (Pu Tryd.prog (Instr.indexAt 200 (.pointer (some image_4)) (.int .i64 h_9)) (.one (.at .addr)) (fun (x17 : Addr) w18 =>
  Wu Tryd.prog (Instr.storeAt 187 (.pointer (some x17)) (.int .u16 v_8)) (fun w19 =>
  Pu Tryd.prog (Instr.indexAt 200 (.pointer (some from_5)) (.int .i64 h_9)) (.one (.at .addr)) (fun (x20 : Addr) w21 =>
  Wu Tryd.prog (Instr.storeAt 187 (.pointer (some x20)) (.int .u16 y_7)) (fun w22 =>
  culletref03_Root.j1 R k1 a_0 image_4 from_5 j_6 w22) w21) w19) w18) w16) (Pu Tryd.prog (Instr.indexAt 200 (.pointer (some image_4)) (.int .i64 h_9)) (.one (.at .addr)) (fun (x23 : Addr) w24 =>
  Rd Tryd.prog (Instr.loadAt 187 (.pointer (some x23))) (.one (.at (.int .u16))) (fun (x25 : Int) w26 =>
  Pu Tryd.prog (Instr.indexAt 200 (.pointer (some from_5)) (.int .i64 h_9)) (.one (.at .addr)) (fun (x27 : Addr) w28 =>
  Rd Tryd.prog (Instr.loadAt 187 (.pointer (some x27))) (.one (.at (.int .u16))) (fun (x29 : Int) w30 =>
  culletref03_Root.j2 R k1 k2 a_0 image_4 from_5 j_6 (bXor .u16 y_7 x29) (bXor .u16 v_8 x25) h_9 w30) w28) w26) w24) w16)) w14) w12)) w) (culletref03_Root.j1 R k1 a_0 image_4 from_5 j_6 w)
def culletref03_Root.l2 (R : Ending → World → Prop) (k1 : (Int × Addr × Addr × Int × Unit) → World → Prop) : (Int × Addr × Addr × Int × Int × Int × Int × Unit) → World → Prop := loopW (fun k2 s w => culletref03_Root.b2 R k1 k2 s.1 s.2.1 s.2.2.1 s.2.2.2.1 s.2.2.2.2.1 s.2.2.2.2.2.1 s.2.2.2.2.2.2.1 w)
def culletref03_Root.j3 (R : Ending → World → Prop)  (k3 : (Int × Addr × Addr × Int × Int × Unit) → World → Prop) (a_0 : Int) (image_4 : Addr) (from_5 : Addr) (root_10 : Int) (h_11 : Int) (w : World) : Prop :=
  k3 (a_0, image_4, from_5, root_10, (IntKind.wrap .i64 (h_11 - 1)), ()) w
def culletref03_Root.b3 (R : Ending → World → Prop) (k3 : (Int × Addr × Addr × Int × Int × Unit) → World → Prop) (a_0 : Int) (image_4 : Addr) (from_5 : Addr) (root_10 : Int) (h_11 : Int) (w : World) : Prop :=
  Cd (decide (h_11 ≥ 0)) (Pu Tryd.prog (do eqGuard .shr 187 (.tmp 60) (.tmp 62) (.int .u16 a_0) (.int .u64 (IntKind.wrap .u64 h_11)); binOp .shr 187 (.int .u16 a_0) (.int .u64 (IntKind.wrap .u64 h_11))) (.one (.at (.int .u16))) (fun (x31 : Int) w32 =>
  Cd ((bAnd .u16 x31 1) == 1) (Pu Tryd.prog (Instr.indexAt 200 (.pointer (some image_4)) (.int .i64 h_11)) (.one (.at .addr)) (fun (x33 : Addr) w34 =>
  Rd Tryd.prog (Instr.loadAt 187 (.pointer (some x33))) (.one (.at (.int .u16))) (fun (x35 : Int) w36 =>
  Cd (x35 == 0) (R (.returned (.tuple #[(.int .u16 0), (.int .i64 30)])) w36) (Pu Tryd.prog (Instr.indexAt 200 (.pointer (some image_4)) (.int .i64 h_11)) (.one (.at .addr)) (fun (x37 : Addr) w38 =>
  Rd Tryd.prog (Instr.loadAt 187 (.pointer (some x37))) (.one (.at (.int .u16))) (fun (x39 : Int) w40 =>
  Pu Tryd.prog (Instr.indexAt 200 (.pointer (some from_5)) (.int .i64 h_11)) (.one (.at .addr)) (fun (x41 : Addr) w42 =>
  Rd Tryd.prog (Instr.loadAt 187 (.pointer (some x41))) (.one (.at (.int .u16))) (fun (x43 : Int) w44 =>
  culletref03_Root.j3 R k3 (bXor .u16 a_0 x39) image_4 from_5 (bXor .u16 root_10 x43) h_11 w44) w42) w40) w38) w36)) w34) w32) (culletref03_Root.j3 R k3 a_0 image_4 from_5 root_10 h_11 w32)) w) (R (.returned (.tuple #[(.int .u16 root_10), (.int .i64 0)])) w)
def culletref03_Root.l3 (R : Ending → World → Prop) : (Int × Addr × Addr × Int × Int × Unit) → World → Prop := loopW (fun k3 s w => culletref03_Root.b3 R k3 s.1 s.2.1 s.2.2.1 s.2.2.2.1 s.2.2.2.2.1 w)
def culletref03_Root.b1 (R : Ending → World → Prop) (k1 : (Int × Addr × Addr × Int × Unit) → World → Prop) (a_0 : Int) (image_4 : Addr) (from_5 : Addr) (j_6 : Int) (w : World) : Prop :=
  Cd (decide (j_6 < 16)) (Pu Tryd.prog (do eqGuard .shl 187 (.const (.int .u16 1)) (.tmp 19) (.int .u16 1) (.int .u64 (IntKind.wrap .u64 j_6)); binOp .shl 187 (.int .u16 1) (.int .u64 (IntKind.wrap .u64 j_6))) (.one (.at (.int .u16))) (fun (x7 : Int) w8 =>
  Cl Tryd.prog 75 #[(.int .u16 x7), (.int .u16 x7)] (.one (.at (.int .u16))) (fun (x9 : Int) w10 =>
  culletref03_Root.l2 R k1 (a_0, image_4, from_5, j_6, x7, (bXor .u16 x9 x7), 15, ()) w10) w8) w) (culletref03_Root.l3 R (a_0, image_4, from_5, 0, 15, ()) w)
def culletref03_Root.l1 (R : Ending → World → Prop) : (Int × Addr × Addr × Int × Unit) → World → Prop := loopW (fun k1 s w => culletref03_Root.b1 R k1 s.1 s.2.1 s.2.2.1 s.2.2.2.1 w)
def culletref03_Root.M (R : Ending → World → Prop) (a_0 : Int) (w : World) : Prop :=
  Wr Tryd.prog (Instr.alloc 200 true (.tuple #[])) (.one (.at .addr)) (fun (x1 : Addr) w2 =>
  Wu Tryd.prog (Instr.storeAt 200 (.pointer (some x1)) (.agg #[(.int .u16 0), (.int .u16 0), (.int .u16 0), (.int .u16 0), (.int .u16 0), (.int .u16 0), (.int .u16 0), (.int .u16 0), (.int .u16 0), (.int .u16 0), (.int .u16 0), (.int .u16 0), (.int .u16 0), (.int .u16 0), (.int .u16 0), (.int .u16 0)])) (fun w3 =>
  Wr Tryd.prog (Instr.alloc 200 true (.tuple #[])) (.one (.at .addr)) (fun (x4 : Addr) w5 =>
  Wu Tryd.prog (Instr.storeAt 200 (.pointer (some x4)) (.agg #[(.int .u16 0), (.int .u16 0), (.int .u16 0), (.int .u16 0), (.int .u16 0), (.int .u16 0), (.int .u16 0), (.int .u16 0), (.int .u16 0), (.int .u16 0), (.int .u16 0), (.int .u16 0), (.int .u16 0), (.int .u16 0), (.int .u16 0), (.int .u16 0)])) (fun w6 =>
  culletref03_Root.l1 R (a_0, x1, x4, 1, ()) w6) w5) w3) w2) w
noncomputable def culletref03_Root.ann (R : Ending → World → Prop) : Ann :=
  .seq (.reg (.op 0 .now (.op 1 .now (.done)))) (.seq (.reg (.op 0 .now (.op 1 (.wr (.one (.at .addr))) (.op 2 .wu (.done))))) (.seq (.reg (.op 0 .now (.op 1 (.wr (.one (.at .addr))) (.op 2 .wu (.done))))) (.seq (.seq (.reg (.op 0 .now (.done))) (.block (.loop [(0, .at (.int .u16)), (4, .at .addr), (5, .at .addr), (6, .at (.int .i64))] (fun k1 s w => culletref03_Root.b1 R k1 s.1 s.2.1 s.2.2.1 s.2.2.2.1 w) (fun k1 => .seq (.seq (.reg (.op 0 .now (.op 1 .now (.done)))) (.cond (.leaf) (.leaf))) (.join [(0, .at (.int .u16)), (4, .at .addr), (5, .at .addr), (6, .at (.int .i64))] (fun s w => culletref03_Root.j1 R k1 s.1 s.2.1 s.2.2.1 s.2.2.2.1 w) (.block (.seq (.reg (.op 0 .now (.op 1 .now (.op 2 (.pu (.one (.at (.int .u16)))) (.op 3 .now (.done)))))) (.seq (.reg (.op 0 .now (.op 1 .now (.op 2 (.cl (.one (.at (.int .u16)))) (.op 3 .now (.op 4 .now (.op 5 .now (.done)))))))) (.seq (.reg (.op 0 .now (.done))) (.block (.loop [(0, .at (.int .u16)), (4, .at .addr), (5, .at .addr), (6, .at (.int .i64)), (7, .at (.int .u16)), (8, .at (.int .u16)), (9, .at (.int .i64))] (fun k2 s w => culletref03_Root.b2 R k1 k2 s.1 s.2.1 s.2.2.1 s.2.2.2.1 s.2.2.2.2.1 s.2.2.2.2.2.1 s.2.2.2.2.2.2.1 w) (fun k2 => .seq (.seq (.reg (.op 0 .now (.op 1 .now (.done)))) (.cond (.leaf) (.leaf))) (.join [(0, .at (.int .u16)), (4, .at .addr), (5, .at .addr), (6, .at (.int .i64)), (7, .at (.int .u16)), (8, .at (.int .u16)), (9, .at (.int .i64))] (fun s w => culletref03_Root.j2 R k1 k2 s.1 s.2.1 s.2.2.1 s.2.2.2.1 s.2.2.2.2.1 s.2.2.2.2.2.1 s.2.2.2.2.2.2.1 w) (.block (.seq (.seq (.reg (.op 0 .now (.op 1 .now (.op 2 .now (.op 3 (.pu (.one (.at (.int .u16)))) (.op 4 .now (.op 5 .now (.done)))))))) (.cond (.leaf) (.leaf))) (.seq (.seq (.reg (.op 0 .now (.op 1 (.pu (.one (.at .addr))) (.op 2 (.rd (.one (.at (.int .u16)))) (.op 3 .now (.done)))))) (.cond (.seq (.reg (.op 0 .now (.op 1 .now (.op 2 (.pu (.one (.at .addr))) (.op 3 .wu (.done)))))) (.seq (.reg (.op 0 .now (.op 1 .now (.op 2 (.pu (.one (.at .addr))) (.op 3 .wu (.done)))))) (.leaf))) (.leaf))) (.seq (.reg (.op 0 .now (.op 1 .now (.op 2 (.pu (.one (.at .addr))) (.op 3 (.rd (.one (.at (.int .u16)))) (.op 4 .now (.op 5 .now (.done)))))))) (.reg (.op 0 .now (.op 1 .now (.op 2 (.pu (.one (.at .addr))) (.op 3 (.rd (.one (.at (.int .u16)))) (.op 4 .now (.op 5 .now (.done)))))))))))) (.reg (.op 0 .now (.op 1 .now (.op 2 .now (.done))))))))))))) (.reg (.op 0 .now (.op 1 .now (.op 2 .now (.done)))))))))) (.seq (.reg (.op 0 .now (.done))) (.seq (.seq (.reg (.op 0 .now (.done))) (.block (.loop [(0, .at (.int .u16)), (4, .at .addr), (5, .at .addr), (10, .at (.int .u16)), (11, .at (.int .i64))] (fun k3 s w => culletref03_Root.b3 R k3 s.1 s.2.1 s.2.2.1 s.2.2.2.1 s.2.2.2.2.1 w) (fun k3 => .seq (.seq (.reg (.op 0 .now (.op 1 .now (.done)))) (.cond (.leaf) (.leaf))) (.join [(0, .at (.int .u16)), (4, .at .addr), (5, .at .addr), (10, .at (.int .u16)), (11, .at (.int .i64))] (fun s w => culletref03_Root.j3 R k3 s.1 s.2.1 s.2.2.1 s.2.2.2.1 s.2.2.2.2.1 w) (.block (.seq (.reg (.op 0 .now (.op 1 .now (.op 2 .now (.op 3 (.pu (.one (.at (.int .u16)))) (.op 4 .now (.op 5 .now (.done)))))))) (.cond (.seq (.seq (.reg (.op 0 .now (.op 1 (.pu (.one (.at .addr))) (.op 2 (.rd (.one (.at (.int .u16)))) (.op 3 .now (.done)))))) (.cond (.seq (.reg (.op 0 .now (.op 1 .now (.done)))) (.leaf)) (.leaf))) (.seq (.reg (.op 0 .now (.op 1 .now (.op 2 (.pu (.one (.at .addr))) (.op 3 (.rd (.one (.at (.int .u16)))) (.op 4 .now (.op 5 .now (.done)))))))) (.reg (.op 0 .now (.op 1 .now (.op 2 (.pu (.one (.at .addr))) (.op 3 (.rd (.one (.at (.int .u16)))) (.op 4 .now (.op 5 .now (.done)))))))))) (.leaf)))) (.reg (.op 0 .now (.op 1 .now (.op 2 .now (.done)))))))))) (.seq (.reg (.op 0 .now (.op 1 .now (.op 2 .now (.done))))) (.leaf)))))))
theorem culletref03_Root.run (R : Ending → World → Prop) (a_0 : Int) (w : World) (h : culletref03_Root.M R a_0 w) : Calls Tryd.prog 70 #[(.int .u16 a_0)] w R := by
  refine calls_of_lift mix_eq Tryd.func70 (c := culletref03_Root.body) (by kernel_rfl) [.at (.int .u16), .at (.int .i64)] (culletref03_Root.ann R) 81 Tryd.ntmps70 [.tmp 2, .tmp 3] (by kernel_rfl) (Nat.le_of_ble_eq_true (by kernel_rfl)) ?_ ?_
  · exact ⟨trivial, ⟨trivial, ⟨trivial, ⟨⟨trivial, (fun k1 => ⟨fun s w h => Eq.mp (by kernel_rfl) h, ⟨⟨trivial, ⟨trivial, trivial⟩⟩, ⟨fun s w h => Eq.mp (by kernel_rfl) h, ⟨trivial, ⟨trivial, ⟨trivial, (fun k2 => ⟨fun s w h => Eq.mp (by kernel_rfl) h, ⟨⟨trivial, ⟨trivial, trivial⟩⟩, ⟨fun s w h => Eq.mp (by kernel_rfl) h, ⟨⟨trivial, ⟨trivial, trivial⟩⟩, ⟨⟨trivial, ⟨⟨trivial, ⟨trivial, trivial⟩⟩, trivial⟩⟩, ⟨trivial, trivial⟩⟩⟩, trivial⟩⟩⟩)⟩⟩⟩, trivial⟩⟩⟩)⟩, ⟨trivial, ⟨⟨trivial, (fun k3 => ⟨fun s w h => Eq.mp (by kernel_rfl) h, ⟨⟨trivial, ⟨trivial, trivial⟩⟩, ⟨fun s w h => Eq.mp (by kernel_rfl) h, ⟨trivial, ⟨⟨⟨trivial, ⟨⟨trivial, trivial⟩, trivial⟩⟩, ⟨trivial, trivial⟩⟩, trivial⟩⟩, trivial⟩⟩⟩)⟩, ⟨trivial, trivial⟩⟩⟩⟩⟩⟩⟩
  · exact Eq.mp (show culletref03_Root.M R a_0 w = _ by kernel_rfl) h

noncomputable def culletref02_Inv.body : Code := (Tryd.f71.body).getD .skip
def culletref02_Inv.b1 (R : Ending → World → Prop) (k1 : (Int × Int × Int × Unit) → World → Prop) (two_4 : Int) (p_5 : Int) (i_6 : Int) (w : World) : Prop :=
  Cd (decide (i_6 < 7)) (Cl Tryd.prog 73 #[(.int .u8 p_5), (.int .u8 two_4)] (.one (.at (.int .u8))) (fun (x3 : Int) w4 =>
  Cl Tryd.prog 73 #[(.int .u8 two_4), (.int .u8 two_4)] (.one (.at (.int .u8))) (fun (x5 : Int) w6 =>
  k1 (x5, x3, (IntKind.wrap .i64 (i_6 + 1)), ()) w6) w4) w) (R (.returned (.tuple #[(.int .u8 p_5), (.int .i64 0)])) w)
def culletref02_Inv.l1 (R : Ending → World → Prop) : (Int × Int × Int × Unit) → World → Prop := loopW (fun k1 s w => culletref02_Inv.b1 R k1 s.1 s.2.1 s.2.2.1 w)
def culletref02_Inv.M (R : Ending → World → Prop) (a_0 : Int) (w : World) : Prop :=
  Cd (a_0 == 0) (R (.returned (.tuple #[(.int .u8 0), (.int .i64 20)])) w) (Cl Tryd.prog 73 #[(.int .u8 a_0), (.int .u8 a_0)] (.one (.at (.int .u8))) (fun (x1 : Int) w2 =>
  culletref02_Inv.l1 R (x1, 1, 0, ()) w2) w)
noncomputable def culletref02_Inv.ann (R : Ending → World → Prop) : Ann :=
  .seq (.reg (.op 0 .now (.op 1 .now (.done)))) (.seq (.seq (.reg (.op 0 .now (.op 1 .now (.done)))) (.cond (.seq (.reg (.op 0 .now (.op 1 .now (.done)))) (.leaf)) (.leaf))) (.seq (.reg (.op 0 .now (.op 1 .now (.op 2 (.cl (.one (.at (.int .u8)))) (.op 3 .now (.done)))))) (.seq (.reg (.op 0 .now (.done))) (.seq (.seq (.reg (.op 0 .now (.done))) (.block (.loop [(4, .at (.int .u8)), (5, .at (.int .u8)), (6, .at (.int .i64))] (fun k1 s w => culletref02_Inv.b1 R k1 s.1 s.2.1 s.2.2.1 w) (fun k1 => .seq (.seq (.reg (.op 0 .now (.op 1 .now (.done)))) (.cond (.leaf) (.leaf))) (.seq (.block (.seq (.reg (.op 0 .now (.op 1 .now (.op 2 (.cl (.one (.at (.int .u8)))) (.op 3 .now (.done)))))) (.reg (.op 0 .now (.op 1 .now (.op 2 (.cl (.one (.at (.int .u8)))) (.op 3 .now (.done)))))))) (.reg (.op 0 .now (.op 1 .now (.op 2 .now (.done)))))))))) (.seq (.reg (.op 0 .now (.op 1 .now (.op 2 .now (.done))))) (.leaf))))))
theorem culletref02_Inv.run (R : Ending → World → Prop) (a_0 : Int) (w : World) (h : culletref02_Inv.M R a_0 w) : Calls Tryd.prog 71 #[(.int .u8 a_0)] w R := by
  refine calls_of_lift mix_eq Tryd.func71 (c := culletref02_Inv.body) (by kernel_rfl) [.at (.int .u8), .at (.int .i64)] (culletref02_Inv.ann R) 23 Tryd.ntmps71 [.tmp 2, .tmp 3] (by kernel_rfl) (Nat.le_of_ble_eq_true (by kernel_rfl)) ?_ ?_
  · exact ⟨trivial, ⟨⟨trivial, ⟨⟨trivial, trivial⟩, trivial⟩⟩, ⟨trivial, ⟨trivial, ⟨⟨trivial, (fun k1 => ⟨fun s w h => Eq.mp (by kernel_rfl) h, ⟨⟨trivial, ⟨trivial, trivial⟩⟩, ⟨⟨trivial, trivial⟩, trivial⟩⟩⟩)⟩, ⟨trivial, trivial⟩⟩⟩⟩⟩⟩
  · exact Eq.mp (show culletref02_Inv.M R a_0 w = _ by kernel_rfl) h

noncomputable def culletref11_weight.body : Code := (Tryd.f72.body).getD .skip
def culletref11_weight.j1 (R : Ending → World → Prop)  (u_7 : Int) (w : World) : Prop :=
  R (.returned (.int .u8 u_7)) w
def culletref11_weight.j2 (R : Ending → World → Prop)  (k1 : (Int × Int × Int × Int × Unit) → World → Prop) (k_1 : Int) (s_2 : Int) (u_7 : Int) (l_8 : Int) (w : World) : Prop :=
  k1 (k_1, s_2, u_7, (IntKind.wrap .i64 (l_8 + 1)), ()) w
def culletref11_weight.b1 (R : Ending → World → Prop) (k1 : (Int × Int × Int × Int × Unit) → World → Prop) (k_1 : Int) (s_2 : Int) (u_7 : Int) (l_8 : Int) (w : World) : Prop :=
  Cd (decide (l_8 < k_1)) (Cd (l_8 != s_2) (Cl Tryd.prog 73 #[(.int .u8 u_7), (.int .u8 (bXor .u8 (IntKind.wrap .u8 s_2) (IntKind.wrap .u8 l_8)))] (.one (.at (.int .u8))) (fun (x1 : Int) w2 =>
  culletref11_weight.j2 R k1 k_1 s_2 x1 l_8 w2) w) (culletref11_weight.j2 R k1 k_1 s_2 u_7 l_8 w)) (culletref11_weight.j1 R u_7 w)
def culletref11_weight.l1 (R : Ending → World → Prop) : (Int × Int × Int × Int × Unit) → World → Prop := loopW (fun k1 s w => culletref11_weight.b1 R k1 s.1 s.2.1 s.2.2.1 s.2.2.2.1 w)
def culletref11_weight.M (R : Ending → World → Prop) (f_0 : Int) (k_1 : Int) (s_2 : Int) (w : World) : Prop :=
  Cd (f_0 == 1) (culletref11_weight.l1 R (k_1, s_2, 1, 0, ()) w) (culletref11_weight.j1 R 1 w)
noncomputable def culletref11_weight.ann (R : Ending → World → Prop) : Ann :=
  .seq (.reg (.op 0 .now (.done))) (.seq (.reg (.op 0 .now (.done))) (.join [(7, .at (.int .u8))] (fun s w => culletref11_weight.j1 R s.1 w) (.seq (.reg (.op 0 .now (.op 1 .now (.done)))) (.cond (.seq (.reg (.op 0 .now (.done))) (.block (.loop [(1, .at (.int .i64)), (2, .at (.int .i64)), (7, .at (.int .u8)), (8, .at (.int .i64))] (fun k1 s w => culletref11_weight.b1 R k1 s.1 s.2.1 s.2.2.1 s.2.2.2.1 w) (fun k1 => .seq (.seq (.reg (.op 0 .now (.op 1 .now (.op 2 .now (.done))))) (.cond (.leaf) (.leaf))) (.join [(1, .at (.int .i64)), (2, .at (.int .i64)), (7, .at (.int .u8)), (8, .at (.int .i64))] (fun s w => culletref11_weight.j2 R k1 s.1 s.2.1 s.2.2.1 s.2.2.2.1 w) (.block (.seq (.reg (.op 0 .now (.op 1 .now (.op 2 .now (.done))))) (.cond (.reg (.op 0 .now (.op 1 .now (.op 2 .now (.op 3 .now (.op 4 .now (.op 5 .now (.op 6 (.cl (.one (.at (.int .u8)))) (.op 7 .now (.done)))))))))) (.leaf)))) (.reg (.op 0 .now (.op 1 .now (.op 2 .now (.done)))))))))) (.leaf))) (.seq (.reg (.op 0 .now (.op 1 .now (.done)))) (.leaf))))
theorem culletref11_weight.run (R : Ending → World → Prop) (f_0 : Int) (k_1 : Int) (s_2 : Int) (w : World) (h : culletref11_weight.M R f_0 k_1 s_2 w) : Calls Tryd.prog 72 #[(.int .i64 f_0), (.int .i64 k_1), (.int .i64 s_2)] w R := by
  refine calls_of_lift mix_eq Tryd.func72 (c := culletref11_weight.body) (by kernel_rfl) [.at (.int .u8)] (culletref11_weight.ann R) 27 Tryd.ntmps72 [.tmp 6] (by kernel_rfl) (Nat.le_of_ble_eq_true (by kernel_rfl)) ?_ ?_
  · exact ⟨trivial, ⟨trivial, ⟨fun s w h => Eq.mp (by kernel_rfl) h, ⟨trivial, ⟨⟨trivial, (fun k1 => ⟨fun s w h => Eq.mp (by kernel_rfl) h, ⟨⟨trivial, ⟨trivial, trivial⟩⟩, ⟨fun s w h => Eq.mp (by kernel_rfl) h, ⟨trivial, ⟨trivial, trivial⟩⟩, trivial⟩⟩⟩)⟩, trivial⟩⟩, ⟨trivial, trivial⟩⟩⟩⟩
  · exact Eq.mp (show culletref11_weight.M R f_0 k_1 s_2 w = _ by kernel_rfl) h

noncomputable def culletref02_Mul.body : Code := (Tryd.f73.body).getD .skip
def culletref02_Mul.j1 (R : Ending → World → Prop)  (k1 : (Int × Int × Int × Int × Unit) → World → Prop) (a_0 : Int) (b_1 : Int) (p_5 : Int) (i_6 : Int) (w : World) : Prop :=
  k1 (a_0, b_1, p_5, (IntKind.wrap .i64 (i_6 + 1)), ()) w
def culletref02_Mul.j2 (R : Ending → World → Prop)  (k2 : (Int × Int × Unit) → World → Prop) (p_5 : Int) (i_7 : Int) (w : World) : Prop :=
  k2 (p_5, (IntKind.wrap .i64 (i_7 - 1)), ()) w
def culletref02_Mul.b2 (R : Ending → World → Prop) (k2 : (Int × Int × Unit) → World → Prop) (p_5 : Int) (i_7 : Int) (w : World) : Prop :=
  Cd (decide (i_7 ≥ 8)) (Pu Tryd.prog (do eqGuard .shr 3 (.tmp 29) (.tmp 31) (.int .i64 p_5) (.int .u64 (IntKind.wrap .u64 i_7)); binOp .shr 3 (.int .i64 p_5) (.int .u64 (IntKind.wrap .u64 i_7))) (.one (.at (.int .i64))) (fun (x5 : Int) w6 =>
  Cd ((bAnd .i64 x5 1) == 1) (Pu Tryd.prog (do eqGuard .shl 3 (.const (.int .i64 285)) (.tmp 38) (.int .i64 285) (.int .u64 (IntKind.wrap .u64 (IntKind.wrap .i64 (i_7 - 8)))); binOp .shl 3 (.int .i64 285) (.int .u64 (IntKind.wrap .u64 (IntKind.wrap .i64 (i_7 - 8))))) (.one (.at (.int .i64))) (fun (x7 : Int) w8 =>
  culletref02_Mul.j2 R k2 (bXor .i64 p_5 x7) i_7 w8) w6) (culletref02_Mul.j2 R k2 p_5 i_7 w6)) w) (R (.returned (.int .u8 (IntKind.wrap .u8 p_5))) w)
def culletref02_Mul.l2 (R : Ending → World → Prop) : (Int × Int × Unit) → World → Prop := loopW (fun k2 s w => culletref02_Mul.b2 R k2 s.1 s.2.1 w)
def culletref02_Mul.b1 (R : Ending → World → Prop) (k1 : (Int × Int × Int × Int × Unit) → World → Prop) (a_0 : Int) (b_1 : Int) (p_5 : Int) (i_6 : Int) (w : World) : Prop :=
  Cd (decide (i_6 < 8)) (Pu Tryd.prog (do eqGuard .shr 5 (.tmp 12) (.tmp 14) (.int .u8 b_1) (.int .u64 (IntKind.wrap .u64 i_6)); binOp .shr 5 (.int .u8 b_1) (.int .u64 (IntKind.wrap .u64 i_6))) (.one (.at (.int .u8))) (fun (x1 : Int) w2 =>
  Cd ((bAnd .u8 x1 1) == 1) (Pu Tryd.prog (do eqGuard .shl 3 (.tmp 20) (.tmp 22) (.int .i64 (IntKind.wrap .i64 a_0)) (.int .u64 (IntKind.wrap .u64 i_6)); binOp .shl 3 (.int .i64 (IntKind.wrap .i64 a_0)) (.int .u64 (IntKind.wrap .u64 i_6))) (.one (.at (.int .i64))) (fun (x3 : Int) w4 =>
  culletref02_Mul.j1 R k1 a_0 b_1 (bXor .i64 p_5 x3) i_6 w4) w2) (culletref02_Mul.j1 R k1 a_0 b_1 p_5 i_6 w2)) w) (culletref02_Mul.l2 R (p_5, 14, ()) w)
def culletref02_Mul.l1 (R : Ending → World → Prop) : (Int × Int × Int × Int × Unit) → World → Prop := loopW (fun k1 s w => culletref02_Mul.b1 R k1 s.1 s.2.1 s.2.2.1 s.2.2.2.1 w)
def culletref02_Mul.M (R : Ending → World → Prop) (a_0 : Int) (b_1 : Int) (w : World) : Prop :=
  culletref02_Mul.l1 R (a_0, b_1, 0, 0, ()) w
noncomputable def culletref02_Mul.ann (R : Ending → World → Prop) : Ann :=
  .seq (.reg (.op 0 .now (.done))) (.seq (.reg (.op 0 .now (.done))) (.seq (.seq (.reg (.op 0 .now (.done))) (.block (.loop [(0, .at (.int .u8)), (1, .at (.int .u8)), (5, .at (.int .i64)), (6, .at (.int .i64))] (fun k1 s w => culletref02_Mul.b1 R k1 s.1 s.2.1 s.2.2.1 s.2.2.2.1 w) (fun k1 => .seq (.seq (.reg (.op 0 .now (.op 1 .now (.done)))) (.cond (.leaf) (.leaf))) (.join [(0, .at (.int .u8)), (1, .at (.int .u8)), (5, .at (.int .i64)), (6, .at (.int .i64))] (fun s w => culletref02_Mul.j1 R k1 s.1 s.2.1 s.2.2.1 s.2.2.2.1 w) (.block (.seq (.reg (.op 0 .now (.op 1 .now (.op 2 .now (.op 3 (.pu (.one (.at (.int .u8)))) (.op 4 .now (.op 5 .now (.done)))))))) (.cond (.reg (.op 0 .now (.op 1 .now (.op 2 .now (.op 3 .now (.op 4 .now (.op 5 (.pu (.one (.at (.int .i64)))) (.op 6 .now (.op 7 .now (.done)))))))))) (.leaf)))) (.reg (.op 0 .now (.op 1 .now (.op 2 .now (.done)))))))))) (.seq (.seq (.reg (.op 0 .now (.done))) (.block (.loop [(5, .at (.int .i64)), (7, .at (.int .i64))] (fun k2 s w => culletref02_Mul.b2 R k2 s.1 s.2.1 w) (fun k2 => .seq (.seq (.reg (.op 0 .now (.op 1 .now (.done)))) (.cond (.leaf) (.leaf))) (.join [(5, .at (.int .i64)), (7, .at (.int .i64))] (fun s w => culletref02_Mul.j2 R k2 s.1 s.2.1 w) (.block (.seq (.reg (.op 0 .now (.op 1 .now (.op 2 .now (.op 3 (.pu (.one (.at (.int .i64)))) (.op 4 .now (.op 5 .now (.done)))))))) (.cond (.reg (.op 0 .now (.op 1 .now (.op 2 .now (.op 3 .now (.op 4 (.pu (.one (.at (.int .i64)))) (.op 5 .now (.op 6 .now (.done))))))))) (.leaf)))) (.reg (.op 0 .now (.op 1 .now (.op 2 .now (.done)))))))))) (.seq (.reg (.op 0 .now (.op 1 .now (.op 2 .now (.done))))) (.leaf)))))
theorem culletref02_Mul.run (R : Ending → World → Prop) (a_0 : Int) (b_1 : Int) (w : World) (h : culletref02_Mul.M R a_0 b_1 w) : Calls Tryd.prog 73 #[(.int .u8 a_0), (.int .u8 b_1)] w R := by
  refine calls_of_lift mix_eq Tryd.func73 (c := culletref02_Mul.body) (by kernel_rfl) [.at (.int .u8)] (culletref02_Mul.ann R) 43 Tryd.ntmps73 [.tmp 4] (by kernel_rfl) (Nat.le_of_ble_eq_true (by kernel_rfl)) ?_ ?_
  · exact ⟨trivial, ⟨trivial, ⟨⟨trivial, (fun k1 => ⟨fun s w h => Eq.mp (by kernel_rfl) h, ⟨⟨trivial, ⟨trivial, trivial⟩⟩, ⟨fun s w h => Eq.mp (by kernel_rfl) h, ⟨trivial, ⟨trivial, trivial⟩⟩, trivial⟩⟩⟩)⟩, ⟨⟨trivial, (fun k2 => ⟨fun s w h => Eq.mp (by kernel_rfl) h, ⟨⟨trivial, ⟨trivial, trivial⟩⟩, ⟨fun s w h => Eq.mp (by kernel_rfl) h, ⟨trivial, ⟨trivial, trivial⟩⟩, trivial⟩⟩⟩)⟩, ⟨trivial, trivial⟩⟩⟩⟩⟩
  · exact Eq.mp (show culletref02_Mul.M R a_0 b_1 w = _ by kernel_rfl) h

noncomputable def culletref02_Div.body : Code := (Tryd.f74.body).getD .skip
def culletref02_Div.M (R : Ending → World → Prop) (a_0 : Int) (b_1 : Int) (w : World) : Prop :=
  Cl Tryd.prog 71 #[(.int .u8 b_1)] (.tup [.at (.int .u8), .at (.int .i64)]) (fun x1 w2 =>
  Cd (x1.2.1 != 0) (R (.returned (.tuple #[(.int .u8 0), (.int .i64 x1.2.1)])) w2) (Cl Tryd.prog 73 #[(.int .u8 a_0), (.int .u8 x1.1)] (.one (.at (.int .u8))) (fun (x3 : Int) w4 =>
  R (.returned (.tuple #[(.int .u8 x3), (.int .i64 0)])) w4) w2)) w
noncomputable def culletref02_Div.ann (R : Ending → World → Prop) : Ann :=
  .seq (.reg (.op 0 .now (.op 1 .now (.done)))) (.seq (.reg (.op 0 .now (.op 1 (.cl (.tup [.at (.int .u8), .at (.int .i64)])) (.op 2 .now (.op 3 .now (.op 4 .now (.op 5 .now (.op 6 .now (.done))))))))) (.seq (.seq (.reg (.op 0 .now (.op 1 .now (.done)))) (.cond (.seq (.reg (.op 0 .now (.op 1 .now (.op 2 .now (.done))))) (.leaf)) (.leaf))) (.seq (.reg (.op 0 .now (.op 1 .now (.op 2 (.cl (.one (.at (.int .u8)))) (.op 3 .now (.op 4 .now (.done))))))) (.leaf))))
theorem culletref02_Div.run (R : Ending → World → Prop) (a_0 : Int) (b_1 : Int) (w : World) (h : culletref02_Div.M R a_0 b_1 w) : Calls Tryd.prog 74 #[(.int .u8 a_0), (.int .u8 b_1)] w R := by
  refine calls_of_lift mix_eq Tryd.func74 (c := culletref02_Div.body) (by kernel_rfl) [.at (.int .u8), .at (.int .i64)] (culletref02_Div.ann R) 19 Tryd.ntmps74 [.tmp 4, .tmp 5] (by kernel_rfl) (Nat.le_of_ble_eq_true (by kernel_rfl)) ?_ ?_
  · exact ⟨trivial, ⟨trivial, ⟨⟨trivial, ⟨⟨trivial, trivial⟩, trivial⟩⟩, ⟨trivial, trivial⟩⟩⟩⟩
  · exact Eq.mp (show culletref02_Div.M R a_0 b_1 w = _ by kernel_rfl) h

noncomputable def culletref03_Mul.body : Code := (Tryd.f75.body).getD .skip
def culletref03_Mul.j1 (R : Ending → World → Prop)  (k1 : (Int × Int × Int × Int × Unit) → World → Prop) (a_0 : Int) (b_1 : Int) (p_5 : Int) (i_6 : Int) (w : World) : Prop :=
  k1 (a_0, b_1, p_5, (IntKind.wrap .i64 (i_6 + 1)), ()) w
def culletref03_Mul.j2 (R : Ending → World → Prop)  (k2 : (Int × Int × Unit) → World → Prop) (p_5 : Int) (i_7 : Int) (w : World) : Prop :=
  k2 (p_5, (IntKind.wrap .i64 (i_7 - 1)), ()) w
def culletref03_Mul.b2 (R : Ending → World → Prop) (k2 : (Int × Int × Unit) → World → Prop) (p_5 : Int) (i_7 : Int) (w : World) : Prop :=
  Cd (decide (i_7 ≥ 16)) (Pu Tryd.prog (do eqGuard .shr 127 (.tmp 29) (.tmp 31) (.int .u32 p_5) (.int .u64 (IntKind.wrap .u64 i_7)); binOp .shr 127 (.int .u32 p_5) (.int .u64 (IntKind.wrap .u64 i_7))) (.one (.at (.int .u32))) (fun (x5 : Int) w6 =>
  Cd ((bAnd .u32 x5 1) == 1) (Pu Tryd.prog (do eqGuard .shl 127 (.const (.int .u32 65581)) (.tmp 38) (.int .u32 65581) (.int .u64 (IntKind.wrap .u64 (IntKind.wrap .i64 (i_7 - 16)))); binOp .shl 127 (.int .u32 65581) (.int .u64 (IntKind.wrap .u64 (IntKind.wrap .i64 (i_7 - 16))))) (.one (.at (.int .u32))) (fun (x7 : Int) w8 =>
  culletref03_Mul.j2 R k2 (bXor .u32 p_5 x7) i_7 w8) w6) (culletref03_Mul.j2 R k2 p_5 i_7 w6)) w) (R (.returned (.int .u16 (IntKind.wrap .u16 p_5))) w)
def culletref03_Mul.l2 (R : Ending → World → Prop) : (Int × Int × Unit) → World → Prop := loopW (fun k2 s w => culletref03_Mul.b2 R k2 s.1 s.2.1 w)
def culletref03_Mul.b1 (R : Ending → World → Prop) (k1 : (Int × Int × Int × Int × Unit) → World → Prop) (a_0 : Int) (b_1 : Int) (p_5 : Int) (i_6 : Int) (w : World) : Prop :=
  Cd (decide (i_6 < 16)) (Pu Tryd.prog (do eqGuard .shr 187 (.tmp 12) (.tmp 14) (.int .u16 b_1) (.int .u64 (IntKind.wrap .u64 i_6)); binOp .shr 187 (.int .u16 b_1) (.int .u64 (IntKind.wrap .u64 i_6))) (.one (.at (.int .u16))) (fun (x1 : Int) w2 =>
  Cd ((bAnd .u16 x1 1) == 1) (Pu Tryd.prog (do eqGuard .shl 127 (.tmp 20) (.tmp 22) (.int .u32 (IntKind.wrap .u32 a_0)) (.int .u64 (IntKind.wrap .u64 i_6)); binOp .shl 127 (.int .u32 (IntKind.wrap .u32 a_0)) (.int .u64 (IntKind.wrap .u64 i_6))) (.one (.at (.int .u32))) (fun (x3 : Int) w4 =>
  culletref03_Mul.j1 R k1 a_0 b_1 (bXor .u32 p_5 x3) i_6 w4) w2) (culletref03_Mul.j1 R k1 a_0 b_1 p_5 i_6 w2)) w) (culletref03_Mul.l2 R (p_5, 30, ()) w)
def culletref03_Mul.l1 (R : Ending → World → Prop) : (Int × Int × Int × Int × Unit) → World → Prop := loopW (fun k1 s w => culletref03_Mul.b1 R k1 s.1 s.2.1 s.2.2.1 s.2.2.2.1 w)
def culletref03_Mul.M (R : Ending → World → Prop) (a_0 : Int) (b_1 : Int) (w : World) : Prop :=
  culletref03_Mul.l1 R (a_0, b_1, 0, 0, ()) w
noncomputable def culletref03_Mul.ann (R : Ending → World → Prop) : Ann :=
  .seq (.reg (.op 0 .now (.done))) (.seq (.reg (.op 0 .now (.done))) (.seq (.seq (.reg (.op 0 .now (.done))) (.block (.loop [(0, .at (.int .u16)), (1, .at (.int .u16)), (5, .at (.int .u32)), (6, .at (.int .i64))] (fun k1 s w => culletref03_Mul.b1 R k1 s.1 s.2.1 s.2.2.1 s.2.2.2.1 w) (fun k1 => .seq (.seq (.reg (.op 0 .now (.op 1 .now (.done)))) (.cond (.leaf) (.leaf))) (.join [(0, .at (.int .u16)), (1, .at (.int .u16)), (5, .at (.int .u32)), (6, .at (.int .i64))] (fun s w => culletref03_Mul.j1 R k1 s.1 s.2.1 s.2.2.1 s.2.2.2.1 w) (.block (.seq (.reg (.op 0 .now (.op 1 .now (.op 2 .now (.op 3 (.pu (.one (.at (.int .u16)))) (.op 4 .now (.op 5 .now (.done)))))))) (.cond (.reg (.op 0 .now (.op 1 .now (.op 2 .now (.op 3 .now (.op 4 .now (.op 5 (.pu (.one (.at (.int .u32)))) (.op 6 .now (.op 7 .now (.done)))))))))) (.leaf)))) (.reg (.op 0 .now (.op 1 .now (.op 2 .now (.done)))))))))) (.seq (.seq (.reg (.op 0 .now (.done))) (.block (.loop [(5, .at (.int .u32)), (7, .at (.int .i64))] (fun k2 s w => culletref03_Mul.b2 R k2 s.1 s.2.1 w) (fun k2 => .seq (.seq (.reg (.op 0 .now (.op 1 .now (.done)))) (.cond (.leaf) (.leaf))) (.join [(5, .at (.int .u32)), (7, .at (.int .i64))] (fun s w => culletref03_Mul.j2 R k2 s.1 s.2.1 w) (.block (.seq (.reg (.op 0 .now (.op 1 .now (.op 2 .now (.op 3 (.pu (.one (.at (.int .u32)))) (.op 4 .now (.op 5 .now (.done)))))))) (.cond (.reg (.op 0 .now (.op 1 .now (.op 2 .now (.op 3 .now (.op 4 (.pu (.one (.at (.int .u32)))) (.op 5 .now (.op 6 .now (.done))))))))) (.leaf)))) (.reg (.op 0 .now (.op 1 .now (.op 2 .now (.done)))))))))) (.seq (.reg (.op 0 .now (.op 1 .now (.op 2 .now (.done))))) (.leaf)))))
theorem culletref03_Mul.run (R : Ending → World → Prop) (a_0 : Int) (b_1 : Int) (w : World) (h : culletref03_Mul.M R a_0 b_1 w) : Calls Tryd.prog 75 #[(.int .u16 a_0), (.int .u16 b_1)] w R := by
  refine calls_of_lift mix_eq Tryd.func75 (c := culletref03_Mul.body) (by kernel_rfl) [.at (.int .u16)] (culletref03_Mul.ann R) 43 Tryd.ntmps75 [.tmp 4] (by kernel_rfl) (Nat.le_of_ble_eq_true (by kernel_rfl)) ?_ ?_
  · exact ⟨trivial, ⟨trivial, ⟨⟨trivial, (fun k1 => ⟨fun s w h => Eq.mp (by kernel_rfl) h, ⟨⟨trivial, ⟨trivial, trivial⟩⟩, ⟨fun s w h => Eq.mp (by kernel_rfl) h, ⟨trivial, ⟨trivial, trivial⟩⟩, trivial⟩⟩⟩)⟩, ⟨⟨trivial, (fun k2 => ⟨fun s w h => Eq.mp (by kernel_rfl) h, ⟨⟨trivial, ⟨trivial, trivial⟩⟩, ⟨fun s w h => Eq.mp (by kernel_rfl) h, ⟨trivial, ⟨trivial, trivial⟩⟩, trivial⟩⟩⟩)⟩, ⟨trivial, trivial⟩⟩⟩⟩⟩
  · exact Eq.mp (show culletref03_Mul.M R a_0 b_1 w = _ by kernel_rfl) h

end Go.Proofs.YtmmejgneelkhkaaDoor
