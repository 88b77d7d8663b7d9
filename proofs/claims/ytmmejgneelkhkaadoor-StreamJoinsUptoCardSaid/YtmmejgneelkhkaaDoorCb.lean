/- The lifted sentences of the functions of this seat, by program, and that the walks follow from them. -/
import Derived.Test.YtmmejgneelkhkaaDoorProg
import Derived.Test.YtmmejgneelkhkaaDoorLift3
import Derived.Test.YtmmejgneelkhkaaDoorOps
set_option linter.all false
namespace Go.Proofs.YtmmejgneelkhkaaDoor
open Go Go.Cu
set_option linter.unusedVariables false
set_option maxRecDepth 100000
set_option maxHeartbeats 4000000

theorem mix_eqb : Tryd.prog.follows .mixedOrders = true := by kernel_rfl
noncomputable def pipes_NewSink.body : Code := (Tryd.f20.body).getD .skip
def pipes_NewSink.M (R : Ending → World → Prop) (plan_0 : (Int × Int × Unit)) (w : World) : Prop :=
  Wr Tryd.prog (Instr.box 60 (.agg #[(.int .i64 plan_0.1), (.int .i64 plan_0.2.1)])) (.one (.at .addr)) (fun (x1 : Addr) w2 =>
  Rd Tryd.prog (Instr.loadAt 3 (.pointer (some x1))) (.one (.at (.int .i64))) (fun (x3 : Int) w4 =>
  Rd Tryd.prog (Instr.loadAt 3 (.pointer (some (Addr.add x1 1)))) (.one (.at (.int .i64))) (fun (x5 : Int) w6 =>
  Wr Tryd.prog (Instr.box 144 (.agg #[(.int .i64 x5)])) (.one (.at .addr)) (fun (x7 : Addr) w8 =>
  Wr Tryd.prog (Instr.box 90 (.agg #[(.slice none 0 0), (.int .i64 x3), (.pointer (some x7))])) (.one (.at .addr)) (fun (x9 : Addr) w10 =>
  R (.returned (.pointer (some x9))) w10) w8) w6) w4) w2) w
noncomputable def pipes_NewSink.ann (R : Ending → World → Prop) : Ann :=
  .seq (.reg (.op 0 (.wr (.one (.at .addr))) (.op 1 .now (.done)))) (.seq (.reg (.op 0 .now (.op 1 (.rd (.one (.at (.int .i64)))) (.op 2 .now (.op 3 (.rd (.one (.at (.int .i64)))) (.op 4 .now (.op 5 (.wr (.one (.at .addr))) (.op 6 .now (.op 7 (.wr (.one (.at .addr))) (.op 8 .now (.done))))))))))) (.leaf))
theorem pipes_NewSink.run (R : Ending → World → Prop) (plan_0 : (Int × Int × Unit)) (w : World) (h : pipes_NewSink.M R plan_0 w) : Calls Tryd.prog 20 #[(.agg #[(.int .i64 plan_0.1), (.int .i64 plan_0.2.1)])] w R := by
  refine calls_of_lift mix_eqb Tryd.func20 (c := pipes_NewSink.body) (by kernel_rfl) [.at .ptr] (pipes_NewSink.ann R) 11 Tryd.ntmps20 [.tmp 2] (by kernel_rfl) (Nat.le_of_ble_eq_true (by kernel_rfl)) ?_ ?_
  · exact ⟨trivial, ⟨trivial, trivial⟩⟩
  · exact Eq.mp (show pipes_NewSink.M R plan_0 w = _ by kernel_rfl) h

noncomputable def pipes_NewSource.body : Code := (Tryd.f21.body).getD .skip
def pipes_NewSource.M (R : Ending → World → Prop) (data_0 : Sl) (plan_1 : (Sl × Int × Int × Unit)) (w : World) : Prop :=
  Wr Tryd.prog (Instr.box 69 (.agg #[(.slice plan_1.1.base plan_1.1.len plan_1.1.cap), (.int .i64 plan_1.2.1), (.int .i64 plan_1.2.2.1)])) (.one (.at .addr)) (fun (x1 : Addr) w2 =>
  Held w2.drew (fun S3 => RdS Tryd.prog S3 (Instr.loadAt 24 (.pointer (some x1))) (.one (.at .sl)) (fun (x4 : Sl) w5 =>
  RdS Tryd.prog S3 (Instr.loadAt 3 (.pointer (some (Addr.add x1 1)))) (.one (.at (.int .i64))) (fun (x6 : Int) w7 =>
  RdS Tryd.prog S3 (Instr.loadAt 3 (.pointer (some (Addr.add x1 2)))) (.one (.at (.int .i64))) (fun (x8 : Int) w9 =>
  (Wr Tryd.prog (Builtin.append_ #[67, 67] 67 #[(.slice none 0 0), (.slice data_0.base data_0.len data_0.cap)]) (.one (.at .sl)) (fun (x10 : Sl) w11 =>
  S3 w11 ∧ ((Wr Tryd.prog (Builtin.append_ #[24, 24] 24 #[(.slice none 0 0), (.slice x4.base x4.len x4.cap)]) (.one (.at .sl)) (fun (x12 : Sl) w13 =>
  S3 w13 ∧ (Wr Tryd.prog (Instr.box 144 (.agg #[(.int .i64 x8)])) (.one (.at .addr)) (fun (x14 : Addr) w15 =>
  S3 w15 ∧ (Wr Tryd.prog (Instr.box 115 (.agg #[(.slice x10.base x10.len x10.cap), (.slice x12.base x12.len x12.cap), (.int .i64 x6), (.pointer (some x14)), (.int .i64 0), (.int .i64 0)])) (.one (.at .addr)) (fun (x16 : Addr) w17 =>
  S3 w17 ∧ (R (.returned (.pointer (some x16))) w17)) w15)) w13)) w11) ∧ (Wr Tryd.prog (Instr.box 144 (.agg #[(.int .i64 x8)])) (.one (.at .addr)) (fun (x18 : Addr) w19 =>
  S3 w19 ∧ (Wr Tryd.prog (Builtin.append_ #[24, 24] 24 #[(.slice none 0 0), (.slice x4.base x4.len x4.cap)]) (.one (.at .sl)) (fun (x20 : Sl) w21 =>
  S3 w21 ∧ (Wr Tryd.prog (Instr.box 115 (.agg #[(.slice x10.base x10.len x10.cap), (.slice x20.base x20.len x20.cap), (.int .i64 x6), (.pointer (some x18)), (.int .i64 0), (.int .i64 0)])) (.one (.at .addr)) (fun (x22 : Addr) w23 =>
  S3 w23 ∧ (R (.returned (.pointer (some x22))) w23)) w21)) w19)) w11))) w9) ∧ (Wr Tryd.prog (Instr.box 144 (.agg #[(.int .i64 x8)])) (.one (.at .addr)) (fun (x24 : Addr) w25 =>
  S3 w25 ∧ (Wr Tryd.prog (Builtin.append_ #[67, 67] 67 #[(.slice none 0 0), (.slice data_0.base data_0.len data_0.cap)]) (.one (.at .sl)) (fun (x26 : Sl) w27 =>
  S3 w27 ∧ (Wr Tryd.prog (Builtin.append_ #[24, 24] 24 #[(.slice none 0 0), (.slice x4.base x4.len x4.cap)]) (.one (.at .sl)) (fun (x28 : Sl) w29 =>
  S3 w29 ∧ (Wr Tryd.prog (Instr.box 115 (.agg #[(.slice x26.base x26.len x26.cap), (.slice x28.base x28.len x28.cap), (.int .i64 x6), (.pointer (some x24)), (.int .i64 0), (.int .i64 0)])) (.one (.at .addr)) (fun (x30 : Addr) w31 =>
  S3 w31 ∧ (R (.returned (.pointer (some x30))) w31)) w29)) w27)) w25)) w9)) w7) w5) w2.drew)) w
noncomputable def pipes_NewSource.ann (R : Ending → World → Prop) : Ann :=
  .seq (.reg (.op 0 (.wr (.one (.at .addr))) (.op 1 .now (.done)))) (.seq (.regD (.op 0 .now (.op 2 .now (.op 3 (.rd (.one (.at .sl))) (.op 5 .now (.op 6 (.rd (.one (.at (.int .i64)))) (.op 7 .now (.op 8 (.rd (.one (.at (.int .i64)))) (.op 9 .now (.fork2 1 (.wr (.one (.at .sl))) (.fork2 4 (.wr (.one (.at .sl))) (.op 10 (.wr (.one (.at .addr))) (.op 11 .now (.op 12 (.wr (.one (.at .addr))) (.op 13 .now (.done))))) 10 (.wr (.one (.at .addr))) (.op 4 (.wr (.one (.at .sl))) (.op 11 .now (.op 12 (.wr (.one (.at .addr))) (.op 13 .now (.done)))))) 10 (.wr (.one (.at .addr))) (.op 1 (.wr (.one (.at .sl))) (.op 4 (.wr (.one (.at .sl))) (.op 11 .now (.op 12 (.wr (.one (.at .addr))) (.op 13 .now (.done)))))))))))))))) (.leaf))
theorem pipes_NewSource.run (R : Ending → World → Prop) (data_0 : Sl) (plan_1 : (Sl × Int × Int × Unit)) (w : World) (h : pipes_NewSource.M R data_0 plan_1 w) : Calls Tryd.prog 21 #[(.slice data_0.base data_0.len data_0.cap), (.agg #[(.slice plan_1.1.base plan_1.1.len plan_1.1.cap), (.int .i64 plan_1.2.1), (.int .i64 plan_1.2.2.1)])] w R := by
  refine calls_of_lift mix_eqb Tryd.func21 (c := pipes_NewSource.body) (by kernel_rfl) [.at .ptr] (pipes_NewSource.ann R) 18 Tryd.ntmps21 [.tmp 4] (by kernel_rfl) (Nat.le_of_ble_eq_true (by kernel_rfl)) ?_ ?_
  · exact ⟨trivial, ⟨(show Region.noSelect _ = true by kernel_rfl), trivial⟩⟩
  · exact Eq.mp (show pipes_NewSource.M R data_0 plan_1 w = _ by kernel_rfl) h

noncomputable def culletlaw24_equal.body : Code := (Tryd.f22.body).getD .skip
def culletlaw24_equal.b1 (R : Ending → World → Prop) (k1 : (Sl × Sl × Int × Int × Unit) → World → Prop) (a_0 : Sl) (b_1 : Sl) (t12 : Int) (t13 : Int) (w : World) : Prop :=
  Cd (decide (t13 < t12)) (Pu Tryd.prog (Instr.indexAt 67 (.slice a_0.base a_0.len a_0.cap) (.int .i64 t13)) (.one (.at .addr)) (fun (x1 : Addr) w2 =>
  RdS Tryd.prog (Same w.drew) (Instr.loadAt 5 (.pointer (some x1))) (.one (.at (.int .u8))) (fun (x3 : Int) w4 =>
  Pu Tryd.prog (Instr.indexAt 67 (.slice b_1.base b_1.len b_1.cap) (.int .i64 t13)) (.one (.at .addr)) (fun (x5 : Addr) w6 =>
  RdS Tryd.prog (Same w.drew) (Instr.loadAt 5 (.pointer (some x5))) (.one (.at (.int .u8))) (fun (x7 : Int) w8 =>
  Cd (x3 != x7) (R (.returned (.bool false)) w8) (k1 (a_0, b_1, t12, (IntKind.wrap .i64 (t13 + 1)), ()) w8)) w6) w4) w2) w.drew) (R (.returned (.bool true)) w)
def culletlaw24_equal.l1 (R : Ending → World → Prop) : (Sl × Sl × Int × Int × Unit) → World → Prop := loopW (fun k1 s w => culletlaw24_equal.b1 R k1 s.1 s.2.1 s.2.2.1 s.2.2.2.1 w)
def culletlaw24_equal.M (R : Ending → World → Prop) (a_0 : Sl) (b_1 : Sl) (w : World) : Prop :=
  Cd (((a_0.len : Nat) : Int) != ((b_1.len : Nat) : Int)) (R (.returned (.bool false)) w) (culletlaw24_equal.l1 R (a_0, b_1, ((a_0.len : Nat) : Int), 0, ()) w)
noncomputable def culletlaw24_equal.ann (R : Ending → World → Prop) : Ann :=
  .seq (.reg (.op 0 .now (.done))) (.seq (.seq (.reg (.op 0 .now (.op 1 .now (.op 2 .now (.op 3 .now (.op 4 .now (.done))))))) (.cond (.seq (.reg (.op 0 .now (.done))) (.leaf)) (.leaf))) (.seq (.seq (.reg (.op 0 .now (.op 1 .now (.op 2 .now (.done))))) (.block (.loop [(0, .at .sl), (1, .at .sl), (12, .at (.int .i64)), (13, .at (.int .i64))] (fun k1 s w => culletlaw24_equal.b1 R k1 s.1 s.2.1 s.2.2.1 s.2.2.2.1 w) (fun k1 => .seq (.reg (.op 0 .now (.done))) (.seq (.cond (.leaf) (.leaf)) (.seq (.block (.seq (.reg (.op 0 .now (.op 1 .now (.done)))) (.seq (.regQ (.op 0 .now (.op 1 .now (.op 2 (.pu (.one (.at .addr))) (.op 3 (.rd (.one (.at (.int .u8)))) (.op 4 .now (.op 5 .now (.op 6 (.pu (.one (.at .addr))) (.op 7 (.rd (.one (.at (.int .u8)))) (.op 8 .now (.done))))))))))) (.cond (.seq (.reg (.op 0 .now (.done))) (.leaf)) (.leaf))))) (.reg (.op 0 .now (.op 1 .now (.done)))))))))) (.seq (.reg (.op 0 .now (.done))) (.leaf))))
theorem culletlaw24_equal.run (R : Ending → World → Prop) (a_0 : Sl) (b_1 : Sl) (w : World) (h : culletlaw24_equal.M R a_0 b_1 w) : Calls Tryd.prog 22 #[(.slice a_0.base a_0.len a_0.cap), (.slice b_1.base b_1.len b_1.cap)] w R := by
  refine calls_of_lift mix_eqb Tryd.func22 (c := culletlaw24_equal.body) (by kernel_rfl) [.at .bool] (culletlaw24_equal.ann R) 26 Tryd.ntmps22 [.tmp 4] (by kernel_rfl) (Nat.le_of_ble_eq_true (by kernel_rfl)) ?_ ?_
  · exact ⟨trivial, ⟨⟨trivial, ⟨⟨trivial, trivial⟩, trivial⟩⟩, ⟨⟨trivial, (fun k1 => ⟨fun s w h => Eq.mp (by kernel_rfl) h, ⟨trivial, ⟨⟨trivial, trivial⟩, ⟨⟨trivial, ⟨(show Region.noSelect _ = true by kernel_rfl), ⟨⟨trivial, trivial⟩, trivial⟩⟩⟩, trivial⟩⟩⟩⟩)⟩, ⟨trivial, trivial⟩⟩⟩⟩
  · exact Eq.mp (show culletlaw24_equal.M R a_0 b_1 w = _ by kernel_rfl) h

noncomputable def pipes_Sink_Bytes.body : Code := (Tryd.f23.body).getD .skip
def pipes_Sink_Bytes.M (R : Ending → World → Prop) (s_0 : (Option Addr)) (w : World) : Prop :=
  Pu Tryd.prog (do eqGuard .eql 64 (.tmp 3) (.const (.pointer none)) (.pointer s_0) (.pointer none); binOp .eql 64 (.pointer s_0) (.pointer none)) (.one (.at .bool)) (fun (x1 : Bool) w2 =>
  Cd x1 (R (.returned (.slice none 0 0)) w2) (Pu Tryd.prog (nilCk s_0) (.one (.at .addr)) (fun (x3 : Addr) w4 =>
  Rd Tryd.prog (Instr.loadAt 67 (.pointer (some x3))) (.one (.at .sl)) (fun (x5 : Sl) w6 =>
  Wr Tryd.prog (Builtin.append_ #[67, 67] 67 #[(.slice none 0 0), (.slice x5.base x5.len x5.cap)]) (.one (.at .sl)) (fun (x7 : Sl) w8 =>
  R (.returned (.slice x7.base x7.len x7.cap)) w8) w6) w4) w2)) w
noncomputable def pipes_Sink_Bytes.ann (R : Ending → World → Prop) : Ann :=
  .seq (.reg (.op 0 .now (.done))) (.seq (.seq (.reg (.op 0 .now (.op 1 (.pu (.one (.at .bool))) (.done)))) (.cond (.seq (.reg (.op 0 .now (.done))) (.leaf)) (.leaf))) (.seq (.reg (.op 0 .now (.op 1 (.pu (.one (.at .addr))) (.op 2 .now (.op 3 (.rd (.one (.at .sl))) (.op 4 (.wr (.one (.at .sl))) (.op 5 .now (.done)))))))) (.leaf)))
theorem pipes_Sink_Bytes.run (R : Ending → World → Prop) (s_0 : (Option Addr)) (w : World) (h : pipes_Sink_Bytes.M R s_0 w) : Calls Tryd.prog 23 #[(.pointer s_0)] w R := by
  refine calls_of_lift mix_eqb Tryd.func23 (c := pipes_Sink_Bytes.body) (by kernel_rfl) [.at .sl] (pipes_Sink_Bytes.ann R) 10 Tryd.ntmps23 [.tmp 2] (by kernel_rfl) (Nat.le_of_ble_eq_true (by kernel_rfl)) ?_ ?_
  · exact ⟨trivial, ⟨⟨trivial, ⟨⟨trivial, trivial⟩, trivial⟩⟩, ⟨trivial, trivial⟩⟩⟩
  · exact Eq.mp (show pipes_Sink_Bytes.M R s_0 w = _ by kernel_rfl) h

noncomputable def stream_begin.body : Code := (Tryd.f24.body).getD .skip
def stream_begin.M (R : Ending → World → Prop) (e_0 : (Option Addr)) (size_1 : Int) (w : World) : Prop :=
  Cl Tryd.prog 48 #[(.pointer e_0)] (.tup [.agg [.int .i64, .int .i64, .int .i64, .int .i64, .int .i64, .int .i64, .int .i64, .bool, .sl], .at (.int .i64)]) (fun x1 w2 =>
  Wr Tryd.prog (Instr.alloc 26 true (.tuple #[])) (.one (.at .addr)) (fun (x3 : Addr) w4 =>
  Wu Tryd.prog (Instr.storeAt 26 (.pointer (some x3)) (.agg #[(.int .i64 x1.1.1), (.int .i64 x1.1.2.1), (.int .i64 x1.1.2.2.1), (.int .i64 x1.1.2.2.2.1), (.int .i64 x1.1.2.2.2.2.1), (.int .i64 x1.1.2.2.2.2.2.1), (.int .i64 x1.1.2.2.2.2.2.2.1), (.bool x1.1.2.2.2.2.2.2.2.1), (.slice x1.1.2.2.2.2.2.2.2.2.1.base x1.1.2.2.2.2.2.2.2.2.1.len x1.1.2.2.2.2.2.2.2.2.1.cap)])) (fun w5 =>
  Cd (x1.2.1 != 0) (R (.returned (.pointer none)) w5) (Rd Tryd.prog (Instr.loadAt 26 (.pointer (some x3))) (.one (.agg [.int .i64, .int .i64, .int .i64, .int .i64, .int .i64, .int .i64, .int .i64, .bool, .sl])) (fun x6 w7 =>
  Wr Tryd.prog (Instr.box 93 (.agg #[(.pointer e_0), (.int .i64 x6.1), (.int .i64 x6.2.1), (.int .i64 x6.2.2.1), (.int .i64 x6.2.2.2.1), (.int .i64 x6.2.2.2.2.1), (.int .i64 x6.2.2.2.2.2.1), (.int .i64 x6.2.2.2.2.2.2.1), (.bool x6.2.2.2.2.2.2.2.1), (.slice x6.2.2.2.2.2.2.2.2.1.base x6.2.2.2.2.2.2.2.2.1.len x6.2.2.2.2.2.2.2.2.1.cap), (.int .i64 size_1), (.slice none 0 0)])) (.one (.at .addr)) (fun (x8 : Addr) w9 =>
  R (.returned (.pointer (some x8))) w9) w7) w5)) w4) w2) w
noncomputable def stream_begin.ann (R : Ending → World → Prop) : Ann :=
  .seq (.reg (.op 0 .now (.done))) (.seq (.reg (.op 0 .now (.op 1 (.cl (.tup [.agg [.int .i64, .int .i64, .int .i64, .int .i64, .int .i64, .int .i64, .int .i64, .bool, .sl], .at (.int .i64)])) (.op 2 .now (.op 3 .now (.op 4 .now (.op 5 (.wr (.one (.at .addr))) (.op 6 .wu (.op 7 .now (.done)))))))))) (.seq (.seq (.reg (.op 0 .now (.op 1 .now (.done)))) (.cond (.seq (.reg (.op 0 .now (.done))) (.leaf)) (.leaf))) (.seq (.reg (.op 0 .now (.op 1 (.rd (.one (.agg [.int .i64, .int .i64, .int .i64, .int .i64, .int .i64, .int .i64, .int .i64, .bool, .sl]))) (.op 2 .now (.op 3 .now (.op 4 (.wr (.one (.at .addr))) (.op 5 .now (.done)))))))) (.leaf))))
theorem stream_begin.run (R : Ending → World → Prop) (e_0 : (Option Addr)) (size_1 : Int) (w : World) (h : stream_begin.M R e_0 size_1 w) : Calls Tryd.prog 24 #[(.pointer e_0), (.int .i64 size_1)] w R := by
  refine calls_of_lift mix_eqb Tryd.func24 (c := stream_begin.body) (by kernel_rfl) [.at .ptr] (stream_begin.ann R) 19 Tryd.ntmps24 [.tmp 4] (by kernel_rfl) (Nat.le_of_ble_eq_true (by kernel_rfl)) ?_ ?_
  · exact ⟨trivial, ⟨trivial, ⟨⟨trivial, ⟨⟨trivial, trivial⟩, trivial⟩⟩, ⟨trivial, trivial⟩⟩⟩⟩
  · exact Eq.mp (show stream_begin.M R e_0 size_1 w = _ by kernel_rfl) h

noncomputable def stream_whole_pipesSink.body : Code := (Tryd.f25.body).getD .skip
def stream_whole_pipesSink.b1 (R : Ending → World → Prop) (k1 : (Sl × Int × Int × Unit) → World → Prop) (t5 : Sl) (t6 : Int) (t7 : Int) (w : World) : Prop :=
  Cd (decide (t7 < t6)) (Pu Tryd.prog (Instr.indexAt 40 (.slice t5.base t5.len t5.cap) (.int .i64 t7)) (.one (.at .addr)) (fun (x1 : Addr) w2 =>
  Rd Tryd.prog (Instr.loadAt 64 (.pointer (some x1))) (.one (.at .ptr)) (fun (x3 : (Option Addr)) w4 =>
  Pu Tryd.prog (do eqGuard .eql 64 (.tmp 11) (.const (.pointer none)) (.pointer x3) (.pointer none); binOp .eql 64 (.pointer x3) (.pointer none)) (.one (.at .bool)) (fun (x5 : Bool) w6 =>
  Cd x5 (R (.returned (.bool false)) w6) (k1 (t5, t6, (IntKind.wrap .i64 (t7 + 1)), ()) w6)) w4) w2) w) (R (.returned (.bool true)) w)
def stream_whole_pipesSink.l1 (R : Ending → World → Prop) : (Sl × Int × Int × Unit) → World → Prop := loopW (fun k1 s w => stream_whole_pipesSink.b1 R k1 s.1 s.2.1 s.2.2.1 w)
def stream_whole_pipesSink.M (R : Ending → World → Prop) (list_0 : Sl) (w : World) : Prop :=
  stream_whole_pipesSink.l1 R (list_0, ((list_0.len : Nat) : Int), 0, ()) w
noncomputable def stream_whole_pipesSink.ann (R : Ending → World → Prop) : Ann :=
  .seq (.reg (.op 0 .now (.done))) (.seq (.seq (.reg (.op 0 .now (.op 1 .now (.op 2 .now (.done))))) (.block (.loop [(5, .at .sl), (6, .at (.int .i64)), (7, .at (.int .i64))] (fun k1 s w => stream_whole_pipesSink.b1 R k1 s.1 s.2.1 s.2.2.1 w) (fun k1 => .seq (.reg (.op 0 .now (.done))) (.seq (.cond (.leaf) (.leaf)) (.seq (.block (.seq (.reg (.op 0 (.pu (.one (.at .addr))) (.op 1 (.rd (.one (.at .ptr))) (.op 2 .now (.done))))) (.seq (.reg (.op 0 .now (.op 1 (.pu (.one (.at .bool))) (.done)))) (.cond (.seq (.reg (.op 0 .now (.done))) (.leaf)) (.leaf))))) (.reg (.op 0 .now (.op 1 .now (.done)))))))))) (.seq (.reg (.op 0 .now (.done))) (.leaf)))
theorem stream_whole_pipesSink.run (R : Ending → World → Prop) (list_0 : Sl) (w : World) (h : stream_whole_pipesSink.M R list_0 w) : Calls Tryd.prog 25 #[(.slice list_0.base list_0.len list_0.cap)] w R := by
  refine calls_of_lift mix_eqb Tryd.func25 (c := stream_whole_pipesSink.body) (by kernel_rfl) [.at .bool] (stream_whole_pipesSink.ann R) 14 Tryd.ntmps25 [.tmp 2] (by kernel_rfl) (Nat.le_of_ble_eq_true (by kernel_rfl)) ?_ ?_
  · exact ⟨trivial, ⟨⟨trivial, (fun k1 => ⟨fun s w h => Eq.mp (by kernel_rfl) h, ⟨trivial, ⟨⟨trivial, trivial⟩, ⟨⟨trivial, ⟨trivial, ⟨⟨trivial, trivial⟩, trivial⟩⟩⟩, trivial⟩⟩⟩⟩)⟩, ⟨trivial, trivial⟩⟩⟩
  · exact Eq.mp (show stream_whole_pipesSink.M R list_0 w = _ by kernel_rfl) h

noncomputable def stream_block_fits.body : Code := (Tryd.f26.body).getD .skip
def stream_block_fits.j1 (R : Ending → World → Prop)  (b_0 : (Option Addr)) (t30 : Bool) (w : World) : Prop :=
  Cd t30 (R (.returned (.bool false)) w) (Pu Tryd.prog (nilCk b_0) (.one (.at .addr)) (fun (x1 : Addr) w2 =>
  RdS Tryd.prog (Same w.drew) (Instr.loadAt 3 (.pointer (some (Addr.add x1 10)))) (.one (.at (.int .i64))) (fun (x3 : Int) w4 =>
  Pu Tryd.prog (nilCk b_0) (.one (.at .addr)) (fun (x5 : Addr) w6 =>
  RdS Tryd.prog (Same w.drew) (Instr.loadAt 3 (.pointer (some (Addr.add (Addr.add x5 1) 2)))) (.one (.at (.int .i64))) (fun (x7 : Int) w8 =>
  Pu Tryd.prog (nilCk b_0) (.one (.at .addr)) (fun (x9 : Addr) w10 =>
  RdS Tryd.prog (Same w.drew) (Instr.loadAt 3 (.pointer (some (Addr.add (Addr.add x9 1) 3)))) (.one (.at (.int .i64))) (fun (x11 : Int) w12 =>
  Pu Tryd.prog (do eqGuard .quo 3 (.const (.int .i64 67108864)) (.tmp 45) (.int .i64 67108864) (.int .i64 (IntKind.wrap .i64 (x7 + x11))); binOp .quo 3 (.int .i64 67108864) (.int .i64 (IntKind.wrap .i64 (x7 + x11)))) (.one (.at (.int .i64))) (fun (x13 : Int) w14 =>
  R (.returned (.bool (decide (x3 ≤ x13)))) w14) w12) w10) w8) w6) w4) w2) w.drew)
def stream_block_fits.M (R : Ending → World → Prop) (b_0 : (Option Addr)) (w : World) : Prop :=
  Pu Tryd.prog (nilCk b_0) (.one (.at .addr)) (fun (x15 : Addr) w16 =>
  Rd Tryd.prog (Instr.loadAt 3 (.pointer (some (Addr.add x15 10)))) (.one (.at (.int .i64))) (fun (x17 : Int) w18 =>
  Cd (decide (x17 < 1)) (stream_block_fits.j1 R b_0 true w18) (Pu Tryd.prog (nilCk b_0) (.one (.at .addr)) (fun (x19 : Addr) w20 =>
  Rd Tryd.prog (Instr.loadAt 3 (.pointer (some (Addr.add x19 10)))) (.one (.at (.int .i64))) (fun (x21 : Int) w22 =>
  Cd (decide (x21 > 1048576)) (stream_block_fits.j1 R b_0 true w22) (Pu Tryd.prog (nilCk b_0) (.one (.at .addr)) (fun (x23 : Addr) w24 =>
  Rd Tryd.prog (Instr.loadAt 22 (.pointer (some (Addr.add x23 1)))) (.one (.at (.int .i64))) (fun (x25 : Int) w26 =>
  Cd (x25 == 2) (Pu Tryd.prog (nilCk b_0) (.one (.at .addr)) (fun (x27 : Addr) w28 =>
  Rd Tryd.prog (Instr.loadAt 3 (.pointer (some (Addr.add x27 10)))) (.one (.at (.int .i64))) (fun (x29 : Int) w30 =>
  stream_block_fits.j1 R b_0 ((Int.tmod x29 2) == 1) w30) w28) w26) (stream_block_fits.j1 R b_0 false w26)) w24) w22)) w20) w18)) w16) w
noncomputable def stream_block_fits.ann (R : Ending → World → Prop) : Ann :=
  .seq (.reg (.op 0 .now (.done))) (.seq (.join [(0, .at .ptr), (30, .at .bool)] (fun s w => stream_block_fits.j1 R s.1 s.2.1 w) (.reg (.op 0 .now (.op 1 (.pu (.one (.at .addr))) (.op 2 .now (.op 3 (.rd (.one (.at (.int .i64)))) (.op 4 .now (.op 5 .now (.split 5 (.skip 6 (.skip 7 (.skip 8 (.skip 9 (.skip 10 (.op 11 .now (.op 12 .now (.skip 13 (.skip 14 (.skip 15 (.skip 16 (.skip 17 (.skip 18 (.skip 19 (.skip 20 (.skip 21 (.skip 22 (.skip 23 (.skip 24 (.skip 25 (.skip 26 (.op 27 .now (.done))))))))))))))))))))))) (.op 6 .now (.op 7 (.pu (.one (.at .addr))) (.op 8 .now (.op 9 (.rd (.one (.at (.int .i64)))) (.op 10 .now (.op 11 .now (.op 12 .now (.split 12 (.skip 13 (.skip 14 (.skip 15 (.skip 16 (.skip 17 (.skip 18 (.skip 19 (.skip 20 (.skip 21 (.skip 22 (.skip 23 (.skip 24 (.skip 25 (.skip 26 (.op 27 .now (.done)))))))))))))))) (.op 13 .now (.op 14 (.pu (.one (.at .addr))) (.op 15 .now (.op 16 .now (.op 17 (.rd (.one (.at (.int .i64)))) (.op 18 .now (.op 19 .now (.split 19 (.op 20 .now (.op 21 (.pu (.one (.at .addr))) (.op 22 .now (.op 23 (.rd (.one (.at (.int .i64)))) (.op 24 .now (.op 25 .now (.op 26 .now (.op 27 .now (.done))))))))) (.skip 20 (.skip 21 (.skip 22 (.skip 23 (.skip 24 (.skip 25 (.op 26 .now (.op 27 .now (.done))))))))))))))))))))))))))))))))) (.cond (.seq (.reg (.op 0 .now (.done))) (.leaf)) (.leaf))) (.seq (.regQ (.op 0 .now (.op 1 (.pu (.one (.at .addr))) (.op 2 .now (.op 3 (.rd (.one (.at (.int .i64)))) (.op 4 .now (.op 5 (.pu (.one (.at .addr))) (.op 6 .now (.op 7 .now (.op 8 (.rd (.one (.at (.int .i64)))) (.op 9 .now (.op 10 (.pu (.one (.at .addr))) (.op 11 .now (.op 12 .now (.op 13 (.rd (.one (.at (.int .i64)))) (.op 14 .now (.op 15 (.pu (.one (.at (.int .i64)))) (.op 16 .now (.op 17 .now (.done)))))))))))))))))))) (.leaf)))
theorem stream_block_fits.run (R : Ending → World → Prop) (b_0 : (Option Addr)) (w : World) (h : stream_block_fits.M R b_0 w) : Calls Tryd.prog 26 #[(.pointer b_0)] w R := by
  refine calls_of_lift mix_eqb Tryd.func26 (c := stream_block_fits.body) (by kernel_rfl) [.at .bool] (stream_block_fits.ann R) 48 Tryd.ntmps26 [.tmp 2] (by kernel_rfl) (Nat.le_of_ble_eq_true (by kernel_rfl)) ?_ ?_
  · exact ⟨trivial, ⟨⟨fun s w h => Eq.mp (by kernel_rfl) h, trivial, ⟨⟨trivial, trivial⟩, trivial⟩⟩, ⟨(show Region.noSelect _ = true by kernel_rfl), trivial⟩⟩⟩
  · exact Eq.mp (show stream_block_fits.M R b_0 w = _ by kernel_rfl) h

noncomputable def stream_fill.body : Code := (Tryd.f28.body).getD .skip
def stream_fill.M (R : Ending → World → Prop) (src_0 : (Option Addr)) (n_1 : Int) (w : World) : Prop :=
  Wr Tryd.prog (Instr.makeSlice 67 (.int .i64 n_1) (.int .i64 n_1)) (.one (.at .sl)) (fun (x1 : Sl) w2 =>
  Cl Tryd.prog 50 #[(.iface 52 (.pointer src_0)), (.slice x1.base x1.len x1.cap)] (.tup [.at (.int .i64), .at .any]) (fun x3 w4 =>
  Rd Tryd.prog (Instr.loadAt 50 (.pointer (some ⟨0, 0, none⟩))) (.one (.at .any)) (fun x5 w6 =>
  Cl Tryd.prog 35 #[x3.2.1, x5] (.one (.at .bool)) (fun (x7 : Bool) w8 =>
  Cd x7 (Pu Tryd.prog (Instr.sliceAt 67 (.slice x1.base x1.len x1.cap) none (some (.int .i64 x3.1)) none) (.one (.at .sl)) (fun (x9 : Sl) w10 =>
  R (.returned (.tuple #[(.slice x9.base x9.len x9.cap), (.bool true), .nilIface])) w10) w8) (Pu Tryd.prog (Instr.sliceAt 67 (.slice x1.base x1.len x1.cap) none (some (.int .i64 x3.1)) none) (.one (.at .sl)) (fun (x11 : Sl) w12 =>
  R (.returned (.tuple #[(.slice x11.base x11.len x11.cap), (.bool false), x3.2.1])) w12) w8)) w6) w4) w2) w
noncomputable def stream_fill.ann (R : Ending → World → Prop) : Ann :=
  .seq (.reg (.op 0 .now (.op 1 .now (.op 2 .now (.done))))) (.seq (.reg (.op 0 .now (.op 1 (.wr (.one (.at .sl))) (.op 2 .now (.done))))) (.seq (.reg (.op 0 .now (.op 1 .now (.op 2 .now (.op 3 (.cl (.tup [.at (.int .i64), .at .any])) (.op 4 .now (.op 5 .now (.op 6 .now (.op 7 .now (.op 8 .now (.done))))))))))) (.seq (.seq (.reg (.op 0 .now (.op 1 (.rd (.one (.at .any))) (.op 2 (.cl (.one (.at .bool))) (.done))))) (.cond (.seq (.reg (.op 0 .now (.op 1 .now (.op 2 (.pu (.one (.at .sl))) (.op 3 .now (.op 4 .now (.op 5 .now (.done)))))))) (.leaf)) (.leaf))) (.seq (.reg (.op 0 .now (.op 1 .now (.op 2 (.pu (.one (.at .sl))) (.op 3 .now (.op 4 .now (.op 5 .now (.op 6 .now (.done))))))))) (.leaf)))))
theorem stream_fill.run (R : Ending → World → Prop) (src_0 : (Option Addr)) (n_1 : Int) (w : World) (h : stream_fill.M R src_0 n_1 w) : Calls Tryd.prog 28 #[(.pointer src_0), (.int .i64 n_1)] w R := by
  refine calls_of_lift mix_eqb Tryd.func28 (c := stream_fill.body) (by kernel_rfl) [.at .sl, .at .bool, .at .any] (stream_fill.ann R) 29 Tryd.ntmps28 [.tmp 4, .tmp 5, .tmp 6] (by kernel_rfl) (Nat.le_of_ble_eq_true (by kernel_rfl)) ?_ ?_
  · exact ⟨trivial, ⟨trivial, ⟨trivial, ⟨⟨trivial, ⟨⟨trivial, trivial⟩, trivial⟩⟩, ⟨trivial, trivial⟩⟩⟩⟩⟩
  · exact Eq.mp (show stream_fill.M R src_0 n_1 w = _ by kernel_rfl) h

noncomputable def stream_put.body : Code := (Tryd.f29.body).getD .skip
def stream_put.M (R : Ending → World → Prop) (dst_0 : (Option Addr)) (p_1 : Sl) (w : World) : Prop :=
  Cd (((p_1.len : Nat) : Int) == 0) (R (.returned .nilIface) w) (Cl Tryd.prog 51 #[(.iface 64 (.pointer dst_0)), (.slice p_1.base p_1.len p_1.cap)] (.tup [.at (.int .i64), .at .any]) (fun x1 w2 =>
  R (.returned x1.2.1) w2) w)
noncomputable def stream_put.ann (R : Ending → World → Prop) : Ann :=
  .seq (.reg (.op 0 .now (.done))) (.seq (.seq (.reg (.op 0 .now (.op 1 .now (.op 2 .now (.done))))) (.cond (.seq (.reg (.op 0 .now (.done))) (.leaf)) (.leaf))) (.seq (.reg (.op 0 .now (.op 1 .now (.op 2 .now (.op 3 (.cl (.tup [.at (.int .i64), .at .any])) (.op 4 .now (.op 5 .now (.op 6 .now (.op 7 .now (.op 8 .now (.done))))))))))) (.seq (.reg (.op 0 .now (.op 1 .now (.done)))) (.leaf))))
theorem stream_put.run (R : Ending → World → Prop) (dst_0 : (Option Addr)) (p_1 : Sl) (w : World) (h : stream_put.M R dst_0 p_1 w) : Calls Tryd.prog 29 #[(.pointer dst_0), (.slice p_1.base p_1.len p_1.cap)] w R := by
  refine calls_of_lift mix_eqb Tryd.func29 (c := stream_put.body) (by kernel_rfl) [.at .any] (stream_put.ann R) 18 Tryd.ntmps29 [.tmp 4] (by kernel_rfl) (Nat.le_of_ble_eq_true (by kernel_rfl)) ?_ ?_
  · exact ⟨trivial, ⟨⟨trivial, ⟨⟨trivial, trivial⟩, trivial⟩⟩, ⟨trivial, ⟨trivial, trivial⟩⟩⟩⟩
  · exact Eq.mp (show stream_put.M R dst_0 p_1 w = _ by kernel_rfl) h

noncomputable def culletref24_sinks.body : Code := (Tryd.f30.body).getD .skip
def culletref24_sinks.b1 (R : Ending → World → Prop) (k1 : (Sl × Int × Int × Unit) → World → Prop) (t5 : Sl) (t6 : Int) (t7 : Int) (w : World) : Prop :=
  Cd (decide (t7 < t6)) (Pu Tryd.prog (Instr.indexAt 42 (.slice t5.base t5.len t5.cap) (.int .i64 t7)) (.one (.at .addr)) (fun (x1 : Addr) w2 =>
  Rd Tryd.prog (Instr.loadAt 66 (.pointer (some x1))) (.one (.at .ptr)) (fun (x3 : (Option Addr)) w4 =>
  Pu Tryd.prog (do eqGuard .eql 66 (.tmp 11) (.const (.pointer none)) (.pointer x3) (.pointer none); binOp .eql 66 (.pointer x3) (.pointer none)) (.one (.at .bool)) (fun (x5 : Bool) w6 =>
  Cd x5 (R (.returned (.bool false)) w6) (k1 (t5, t6, (IntKind.wrap .i64 (t7 + 1)), ()) w6)) w4) w2) w) (R (.returned (.bool true)) w)
def culletref24_sinks.l1 (R : Ending → World → Prop) : (Sl × Int × Int × Unit) → World → Prop := loopW (fun k1 s w => culletref24_sinks.b1 R k1 s.1 s.2.1 s.2.2.1 w)
def culletref24_sinks.M (R : Ending → World → Prop) (list_0 : Sl) (w : World) : Prop :=
  culletref24_sinks.l1 R (list_0, ((list_0.len : Nat) : Int), 0, ()) w
noncomputable def culletref24_sinks.ann (R : Ending → World → Prop) : Ann :=
  .seq (.reg (.op 0 .now (.done))) (.seq (.seq (.reg (.op 0 .now (.op 1 .now (.op 2 .now (.done))))) (.block (.loop [(5, .at .sl), (6, .at (.int .i64)), (7, .at (.int .i64))] (fun k1 s w => culletref24_sinks.b1 R k1 s.1 s.2.1 s.2.2.1 w) (fun k1 => .seq (.reg (.op 0 .now (.done))) (.seq (.cond (.leaf) (.leaf)) (.seq (.block (.seq (.reg (.op 0 (.pu (.one (.at .addr))) (.op 1 (.rd (.one (.at .ptr))) (.op 2 .now (.done))))) (.seq (.reg (.op 0 .now (.op 1 (.pu (.one (.at .bool))) (.done)))) (.cond (.seq (.reg (.op 0 .now (.done))) (.leaf)) (.leaf))))) (.reg (.op 0 .now (.op 1 .now (.done)))))))))) (.seq (.reg (.op 0 .now (.done))) (.leaf)))
theorem culletref24_sinks.run (R : Ending → World → Prop) (list_0 : Sl) (w : World) (h : culletref24_sinks.M R list_0 w) : Calls Tryd.prog 30 #[(.slice list_0.base list_0.len list_0.cap)] w R := by
  refine calls_of_lift mix_eqb Tryd.func30 (c := culletref24_sinks.body) (by kernel_rfl) [.at .bool] (culletref24_sinks.ann R) 14 Tryd.ntmps30 [.tmp 2] (by kernel_rfl) (Nat.le_of_ble_eq_true (by kernel_rfl)) ?_ ?_
  · exact ⟨trivial, ⟨⟨trivial, (fun k1 => ⟨fun s w h => Eq.mp (by kernel_rfl) h, ⟨trivial, ⟨⟨trivial, trivial⟩, ⟨⟨trivial, ⟨trivial, ⟨⟨trivial, trivial⟩, trivial⟩⟩⟩, trivial⟩⟩⟩⟩)⟩, ⟨trivial, trivial⟩⟩⟩
  · exact Eq.mp (show culletref24_sinks.M R list_0 w = _ by kernel_rfl) h

noncomputable def culletref24_Code_block.body : Code := (Tryd.f31.body).getD .skip
def culletref24_Code_block.M (R : Ending → World → Prop) (c_0 : (Int × Int × Int × (Option Addr) × Int × Int × Int × Int × Int × Int × Sl × Sl × Sl × Unit)) (n_1 : Int) (w : World) : Prop :=
  Wr Tryd.prog (Instr.box 38 (.agg #[(.int .i64 c_0.1), (.int .i64 c_0.2.1), (.int .i64 c_0.2.2.1), (.pointer c_0.2.2.2.1), (.int .i64 c_0.2.2.2.2.1), (.int .i64 c_0.2.2.2.2.2.1), (.int .i64 c_0.2.2.2.2.2.2.1), (.int .i64 c_0.2.2.2.2.2.2.2.1), (.int .i64 c_0.2.2.2.2.2.2.2.2.1), (.int .i64 c_0.2.2.2.2.2.2.2.2.2.1), (.slice c_0.2.2.2.2.2.2.2.2.2.2.1.base c_0.2.2.2.2.2.2.2.2.2.2.1.len c_0.2.2.2.2.2.2.2.2.2.2.1.cap), (.slice c_0.2.2.2.2.2.2.2.2.2.2.2.1.base c_0.2.2.2.2.2.2.2.2.2.2.2.1.len c_0.2.2.2.2.2.2.2.2.2.2.2.1.cap), (.slice c_0.2.2.2.2.2.2.2.2.2.2.2.2.1.base c_0.2.2.2.2.2.2.2.2.2.2.2.2.1.len c_0.2.2.2.2.2.2.2.2.2.2.2.2.1.cap)])) (.one (.at .addr)) (fun (x1 : Addr) w2 =>
  Cd (decide (n_1 ≥ 1)) (Cd (decide (n_1 ≤ 1048576)) (Rd Tryd.prog (Instr.loadAt 3 (.pointer (some x1))) (.one (.at (.int .i64))) (fun (x3 : Int) w4 =>
  Cd (x3 != 2) (Rd Tryd.prog (Instr.loadAt 3 (.pointer (some (Addr.add x1 1)))) (.one (.at (.int .i64))) (fun (x5 : Int) w6 =>
  Rd Tryd.prog (Instr.loadAt 3 (.pointer (some (Addr.add x1 2)))) (.one (.at (.int .i64))) (fun (x7 : Int) w8 =>
  R (.returned (.bool (decide ((IntKind.wrap .i64 ((IntKind.wrap .i64 (x5 + x7)) * n_1)) ≤ 67108864)))) w8) w6) w4) (Cd ((Int.tmod n_1 2) == 0) (Rd Tryd.prog (Instr.loadAt 3 (.pointer (some (Addr.add x1 1)))) (.one (.at (.int .i64))) (fun (x9 : Int) w10 =>
  Rd Tryd.prog (Instr.loadAt 3 (.pointer (some (Addr.add x1 2)))) (.one (.at (.int .i64))) (fun (x11 : Int) w12 =>
  R (.returned (.bool (decide ((IntKind.wrap .i64 ((IntKind.wrap .i64 (x9 + x11)) * n_1)) ≤ 67108864)))) w12) w10) w4) (R (.returned (.bool false)) w4))) w2) (R (.returned (.bool false)) w2)) (R (.returned (.bool false)) w2)) w
noncomputable def culletref24_Code_block.ann (R : Ending → World → Prop) : Ann :=
  .seq (.reg (.op 0 (.wr (.one (.at .addr))) (.op 1 .now (.done)))) (.seq (.reg (.op 0 .now (.op 1 .now (.op 2 .now (.split 2 (.op 3 .now (.op 4 .now (.op 5 .now (.op 6 .now (.split 6 (.op 7 .now (.op 8 (.rd (.one (.at (.int .i64)))) (.op 9 .now (.op 10 .now (.split 10 (.skip 11 (.skip 12 (.skip 13 (.op 14 .now (.op 15 .now (.op 16 .now (.op 17 .now (.op 18 (.rd (.one (.at (.int .i64)))) (.op 19 .now (.op 20 (.rd (.one (.at (.int .i64)))) (.op 21 .now (.op 22 .now (.op 23 .now (.op 24 .now (.op 25 .now (.op 26 .now (.done))))))))))))))))) (.op 11 .now (.op 12 .now (.op 13 .now (.op 14 .now (.op 15 .now (.op 16 .now (.split 16 (.op 17 .now (.op 18 (.rd (.one (.at (.int .i64)))) (.op 19 .now (.op 20 (.rd (.one (.at (.int .i64)))) (.op 21 .now (.op 22 .now (.op 23 .now (.op 24 .now (.op 25 .now (.op 26 .now (.done))))))))))) (.skip 17 (.skip 18 (.skip 19 (.skip 20 (.skip 21 (.skip 22 (.skip 23 (.skip 24 (.op 25 .now (.op 26 .now (.done))))))))))))))))))))))) (.skip 7 (.skip 8 (.skip 9 (.skip 10 (.skip 11 (.skip 12 (.skip 13 (.skip 14 (.op 15 .now (.op 16 .now (.skip 17 (.skip 18 (.skip 19 (.skip 20 (.skip 21 (.skip 22 (.skip 23 (.skip 24 (.op 25 .now (.op 26 .now (.done)))))))))))))))))))))))))) (.skip 3 (.skip 4 (.op 5 .now (.op 6 .now (.skip 7 (.skip 8 (.skip 9 (.skip 10 (.skip 11 (.skip 12 (.skip 13 (.skip 14 (.op 15 .now (.op 16 .now (.skip 17 (.skip 18 (.skip 19 (.skip 20 (.skip 21 (.skip 22 (.skip 23 (.skip 24 (.op 25 .now (.op 26 .now (.done)))))))))))))))))))))))))))))) (.leaf))
theorem culletref24_Code_block.run (R : Ending → World → Prop) (c_0 : (Int × Int × Int × (Option Addr) × Int × Int × Int × Int × Int × Int × Sl × Sl × Sl × Unit)) (n_1 : Int) (w : World) (h : culletref24_Code_block.M R c_0 n_1 w) : Calls Tryd.prog 31 #[(.agg #[(.int .i64 c_0.1), (.int .i64 c_0.2.1), (.int .i64 c_0.2.2.1), (.pointer c_0.2.2.2.1), (.int .i64 c_0.2.2.2.2.1), (.int .i64 c_0.2.2.2.2.2.1), (.int .i64 c_0.2.2.2.2.2.2.1), (.int .i64 c_0.2.2.2.2.2.2.2.1), (.int .i64 c_0.2.2.2.2.2.2.2.2.1), (.int .i64 c_0.2.2.2.2.2.2.2.2.2.1), (.slice c_0.2.2.2.2.2.2.2.2.2.2.1.base c_0.2.2.2.2.2.2.2.2.2.2.1.len c_0.2.2.2.2.2.2.2.2.2.2.1.cap), (.slice c_0.2.2.2.2.2.2.2.2.2.2.2.1.base c_0.2.2.2.2.2.2.2.2.2.2.2.1.len c_0.2.2.2.2.2.2.2.2.2.2.2.1.cap), (.slice c_0.2.2.2.2.2.2.2.2.2.2.2.2.1.base c_0.2.2.2.2.2.2.2.2.2.2.2.2.1.len c_0.2.2.2.2.2.2.2.2.2.2.2.2.1.cap)]), (.int .i64 n_1)] w R := by
  refine calls_of_lift mix_eqb Tryd.func31 (c := culletref24_Code_block.body) (by kernel_rfl) [.at .bool] (culletref24_Code_block.ann R) 31 Tryd.ntmps31 [.tmp 4] (by kernel_rfl) (Nat.le_of_ble_eq_true (by kernel_rfl)) ?_ ?_
  · exact ⟨trivial, ⟨trivial, trivial⟩⟩
  · exact Eq.mp (show culletref24_Code_block.M R c_0 n_1 w = _ by kernel_rfl) h

noncomputable def culletref24_Source_full.body : Code := (Tryd.f33.body).getD .skip
def culletref24_Source_full.j1 (R : Ending → World → Prop)  (k1 : ((Option Addr) × Int × Sl × Int × Unit) → World → Prop) (s_0 : (Option Addr)) (want_1 : Int) (out_6 : Sl) (idle_7 : Int) (w : World) : Prop :=
  Cd (idle_7 == 100) (R (.returned (.tuple #[(.slice out_6.base out_6.len out_6.cap), (.int .i64 240)])) w) (k1 (s_0, want_1, out_6, idle_7, ()) w)
def culletref24_Source_full.b1 (R : Ending → World → Prop) (k1 : ((Option Addr) × Int × Sl × Int × Unit) → World → Prop) (s_0 : (Option Addr)) (want_1 : Int) (out_6 : Sl) (idle_7 : Int) (w : World) : Prop :=
  Cd (decide (((out_6.len : Nat) : Int) < want_1)) (Cl Tryd.prog 53 #[(.pointer s_0), (.int .i64 (IntKind.wrap .i64 (want_1 - ((out_6.len : Nat) : Int))))] (.tup [.at .sl, .at (.int .i64)]) (fun x1 w2 =>
  Wr Tryd.prog (Builtin.append_ #[67, 67] 67 #[(.slice out_6.base out_6.len out_6.cap), (.slice x1.1.base x1.1.len x1.1.cap)]) (.one (.at .sl)) (fun (x3 : Sl) w4 =>
  Cd (x1.2.1 != 0) (R (.returned (.tuple #[(.slice x3.base x3.len x3.cap), (.int .i64 x1.2.1)])) w4) (Cd (decide (((x1.1.len : Nat) : Int) > 0)) (culletref24_Source_full.j1 R k1 s_0 want_1 x3 0 w4) (culletref24_Source_full.j1 R k1 s_0 want_1 x3 (IntKind.wrap .i64 (idle_7 + 1)) w4))) w2) w) (R (.returned (.tuple #[(.slice out_6.base out_6.len out_6.cap), (.int .i64 0)])) w)
def culletref24_Source_full.l1 (R : Ending → World → Prop) : ((Option Addr) × Int × Sl × Int × Unit) → World → Prop := loopW (fun k1 s w => culletref24_Source_full.b1 R k1 s.1 s.2.1 s.2.2.1 s.2.2.2.1 w)
def culletref24_Source_full.M (R : Ending → World → Prop) (s_0 : (Option Addr)) (want_1 : Int) (w : World) : Prop :=
  culletref24_Source_full.l1 R (s_0, want_1, ⟨none, 0, 0⟩, 0, ()) w
noncomputable def culletref24_Source_full.ann (R : Ending → World → Prop) : Ann :=
  .seq (.reg (.op 0 .now (.op 1 .now (.done)))) (.seq (.reg (.op 0 .now (.done))) (.seq (.reg (.op 0 .now (.done))) (.seq (.block (.loop [(0, .at .ptr), (1, .at (.int .i64)), (6, .at .sl), (7, .at (.int .i64))] (fun k1 s w => culletref24_Source_full.b1 R k1 s.1 s.2.1 s.2.2.1 s.2.2.2.1 w) (fun k1 => .seq (.seq (.reg (.op 0 .now (.op 1 .now (.op 2 .now (.op 3 .now (.done)))))) (.cond (.leaf) (.leaf))) (.block (.seq (.reg (.op 0 .now (.op 1 .now (.op 2 .now (.op 3 .now (.op 4 .now (.op 5 (.cl (.tup [.at .sl, .at (.int .i64)])) (.op 6 .now (.op 7 .now (.op 8 .now (.op 9 .now (.op 10 .now (.done))))))))))))) (.seq (.reg (.op 0 .now (.op 1 .now (.op 2 (.wr (.one (.at .sl))) (.op 3 .now (.done)))))) (.seq (.seq (.reg (.op 0 .now (.op 1 .now (.done)))) (.cond (.seq (.reg (.op 0 .now (.op 1 .now (.op 2 .now (.op 3 .now (.done)))))) (.leaf)) (.leaf))) (.seq (.reg (.op 0 .now (.op 1 .now (.op 2 .now (.done))))) (.join [(0, .at .ptr), (1, .at (.int .i64)), (6, .at .sl), (7, .at (.int .i64))] (fun s w => culletref24_Source_full.j1 R k1 s.1 s.2.1 s.2.2.1 s.2.2.2.1 w) (.seq (.reg (.op 0 .now (.op 1 .now (.op 2 .now (.done))))) (.cond (.reg (.op 0 .now (.done))) (.leaf))) (.seq (.reg (.op 0 .now (.op 1 .now (.done)))) (.cond (.seq (.reg (.op 0 .now (.op 1 .now (.op 2 .now (.done))))) (.leaf)) (.leaf)))))))))))) (.seq (.reg (.op 0 .now (.op 1 .now (.op 2 .now (.done))))) (.leaf)))))
theorem culletref24_Source_full.run (R : Ending → World → Prop) (s_0 : (Option Addr)) (want_1 : Int) (w : World) (h : culletref24_Source_full.M R s_0 want_1 w) : Calls Tryd.prog 33 #[(.pointer s_0), (.int .i64 want_1)] w R := by
  refine calls_of_lift mix_eqb Tryd.func33 (c := culletref24_Source_full.body) (by kernel_rfl) [.at .sl, .at (.int .i64)] (culletref24_Source_full.ann R) 39 Tryd.ntmps33 [.tmp 4, .tmp 5] (by kernel_rfl) (Nat.le_of_ble_eq_true (by kernel_rfl)) ?_ ?_
  · exact ⟨trivial, ⟨trivial, ⟨trivial, ⟨(fun k1 => ⟨fun s w h => Eq.mp (by kernel_rfl) h, ⟨⟨trivial, ⟨trivial, trivial⟩⟩, ⟨trivial, ⟨trivial, ⟨⟨trivial, ⟨⟨trivial, trivial⟩, trivial⟩⟩, ⟨trivial, ⟨fun s w h => Eq.mp (by kernel_rfl) h, ⟨trivial, ⟨trivial, trivial⟩⟩, ⟨trivial, ⟨⟨trivial, trivial⟩, trivial⟩⟩⟩⟩⟩⟩⟩⟩⟩), ⟨trivial, trivial⟩⟩⟩⟩⟩
  · exact Eq.mp (show culletref24_Source_full.M R s_0 want_1 w = _ by kernel_rfl) h

noncomputable def culletref24_Sink_put.body : Code := (Tryd.f34.body).getD .skip
def culletref24_Sink_put.j3 (R : Ending → World → Prop)  (w : World) : Prop :=
  R (.returned (.bool false)) w
def culletref24_Sink_put.j2 (R : Ending → World → Prop)  (s_0 : (Option Addr)) (p_1 : Sl) (room_5 : Int) (t26 : Bool) (w : World) : Prop :=
  Cd t26 (Held w.drew (fun S1 => Pu Tryd.prog (nilCk s_0) (.one (.at .addr)) (fun (x2 : Addr) w3 =>
  Pu Tryd.prog (Instr.sliceAt 67 (.slice p_1.base p_1.len p_1.cap) none (some (.int .i64 room_5)) none) (.one (.at .sl)) (fun (x4 : Sl) w5 =>
  Wr Tryd.prog (Instr.loadAt 67 (.pointer (some (Addr.add x2 1)))) (.one (.at .sl)) (fun (x6 : Sl) w7 =>
  S1 w7 ∧ (Wr Tryd.prog (Builtin.append_ #[67, 67] 67 #[(.slice x6.base x6.len x6.cap), (.slice x4.base x4.len x4.cap)]) (.one (.at .sl)) (fun (x8 : Sl) w9 =>
  S1 w9 ∧ (Pu Tryd.prog (nilCk s_0) (.one (.at .addr)) (fun (x10 : Addr) w11 =>
  Wu Tryd.prog (Instr.storeAt 67 (.pointer (some (Addr.add x10 1))) (.slice x8.base x8.len x8.cap)) (fun w12 =>
  S1 w12 ∧ (culletref24_Sink_put.j3 R  w12)) w11) w9)) w7)) w5) w3) w.drew)) (Pu Tryd.prog (nilCk s_0) (.one (.at .addr)) (fun (x13 : Addr) w14 =>
  Rd Tryd.prog (Instr.loadAt 67 (.pointer (some (Addr.add x13 1)))) (.one (.at .sl)) (fun (x15 : Sl) w16 =>
  Wr Tryd.prog (Builtin.append_ #[67, 67] 67 #[(.slice x15.base x15.len x15.cap), (.slice p_1.base p_1.len p_1.cap)]) (.one (.at .sl)) (fun (x17 : Sl) w18 =>
  Pu Tryd.prog (nilCk s_0) (.one (.at .addr)) (fun (x19 : Addr) w20 =>
  Wu Tryd.prog (Instr.storeAt 67 (.pointer (some (Addr.add x19 1))) (.slice x17.base x17.len x17.cap)) (fun w21 =>
  R (.returned (.bool true)) w21) w20) w18) w16) w14) w)
def culletref24_Sink_put.j1 (R : Ending → World → Prop)  (s_0 : (Option Addr)) (p_1 : Sl) (room_5 : Int) (w : World) : Prop :=
  Pu Tryd.prog (nilCk s_0) (.one (.at .addr)) (fun (x22 : Addr) w23 =>
  Rd Tryd.prog (Instr.loadAt 3 (.pointer (some x22))) (.one (.at (.int .i64))) (fun (x24 : Int) w25 =>
  Cd (decide (x24 ≥ 0)) (culletref24_Sink_put.j2 R s_0 p_1 room_5 (decide (room_5 < ((p_1.len : Nat) : Int))) w25) (culletref24_Sink_put.j2 R s_0 p_1 room_5 false w25)) w23) w
def culletref24_Sink_put.M (R : Ending → World → Prop) (s_0 : (Option Addr)) (p_1 : Sl) (w : World) : Prop :=
  Pu Tryd.prog (nilCk s_0) (.one (.at .addr)) (fun (x26 : Addr) w27 =>
  RdS Tryd.prog (Same w.drew) (Instr.loadAt 3 (.pointer (some x26))) (.one (.at (.int .i64))) (fun (x28 : Int) w29 =>
  Pu Tryd.prog (nilCk s_0) (.one (.at .addr)) (fun (x30 : Addr) w31 =>
  RdS Tryd.prog (Same w.drew) (Instr.loadAt 67 (.pointer (some (Addr.add x30 1)))) (.one (.at .sl)) (fun (x32 : Sl) w33 =>
  culletref24_Sink_put.j1 R s_0 p_1 (IntKind.wrap .i64 (x28 - ((x32.len : Nat) : Int))) w33) w31) w29) w27) w.drew
noncomputable def culletref24_Sink_put.ann (R : Ending → World → Prop) : Ann :=
  .seq (.reg (.op 0 .now (.done))) (.join [(0, .at .ptr), (1, .at .sl), (5, .at (.int .i64))] (fun s w => culletref24_Sink_put.j1 R s.1 s.2.1 s.2.2.1 w) (.regQ (.op 0 .now (.op 1 (.pu (.one (.at .addr))) (.op 2 .now (.op 3 (.rd (.one (.at (.int .i64)))) (.op 4 .now (.op 5 (.pu (.one (.at .addr))) (.op 6 .now (.op 7 (.rd (.one (.at .sl))) (.op 8 .now (.op 9 .now (.op 10 .now (.done))))))))))))) (.seq (.join [(0, .at .ptr), (1, .at .sl), (5, .at (.int .i64)), (26, .at .bool)] (fun s w => culletref24_Sink_put.j2 R s.1 s.2.1 s.2.2.1 s.2.2.2.1 w) (.reg (.op 0 .now (.op 1 (.pu (.one (.at .addr))) (.op 2 .now (.op 3 (.rd (.one (.at (.int .i64)))) (.op 4 .now (.op 5 .now (.split 5 (.op 6 .now (.op 7 .now (.op 8 .now (.op 9 .now (.op 10 .now (.done)))))) (.skip 6 (.skip 7 (.skip 8 (.skip 9 (.op 10 .now (.done)))))))))))))) (.cond (.join [] (fun s w => culletref24_Sink_put.j3 R  w) (.regD (.op 0 .now (.op 1 .now (.op 2 (.pu (.one (.at .addr))) (.op 3 .now (.op 5 .now (.op 6 .now (.op 7 (.pu (.one (.at .sl))) (.op 4 (.wr (.one (.at .sl))) (.op 8 (.wr (.one (.at .sl))) (.op 9 (.pu (.one (.at .addr))) (.op 10 .now (.op 11 .wu (.done)))))))))))))) (.seq (.reg (.op 0 .now (.done))) (.leaf))) (.leaf))) (.seq (.reg (.op 0 .now (.op 1 .now (.op 2 (.pu (.one (.at .addr))) (.op 3 .now (.op 4 (.rd (.one (.at .sl))) (.op 5 .now (.op 6 (.wr (.one (.at .sl))) (.op 7 (.pu (.one (.at .addr))) (.op 8 .now (.op 9 .wu (.done)))))))))))) (.seq (.reg (.op 0 .now (.done))) (.leaf)))))
theorem culletref24_Sink_put.run (R : Ending → World → Prop) (s_0 : (Option Addr)) (p_1 : Sl) (w : World) (h : culletref24_Sink_put.M R s_0 p_1 w) : Calls Tryd.prog 34 #[(.pointer s_0), (.slice p_1.base p_1.len p_1.cap)] w R := by
  refine calls_of_lift mix_eqb Tryd.func34 (c := culletref24_Sink_put.body) (by kernel_rfl) [.at .bool] (culletref24_Sink_put.ann R) 47 Tryd.ntmps34 [.tmp 4] (by kernel_rfl) (Nat.le_of_ble_eq_true (by kernel_rfl)) ?_ ?_
  · exact ⟨trivial, ⟨fun s w h => Eq.mp (by kernel_rfl) h, (show Region.noSelect _ = true by kernel_rfl), ⟨⟨fun s w h => Eq.mp (by kernel_rfl) h, trivial, ⟨⟨fun s w h => Eq.mp (by kernel_rfl) h, (show Region.noSelect _ = true by kernel_rfl), ⟨trivial, trivial⟩⟩, trivial⟩⟩, ⟨trivial, ⟨trivial, trivial⟩⟩⟩⟩⟩
  · exact Eq.mp (show culletref24_Sink_put.M R s_0 p_1 w = _ by kernel_rfl) h

noncomputable def pipes_Source_Failure.body : Code := (Tryd.f36.body).getD .skip
def pipes_Source_Failure.j1 (R : Ending → World → Prop)  (s_0 : (Option Addr)) (t11 : Bool) (w : World) : Prop :=
  Cd t11 (R (.returned .nilIface) w) (Pu Tryd.prog (nilCk s_0) (.one (.at .addr)) (fun (x1 : Addr) w2 =>
  Rd Tryd.prog (Instr.loadAt 88 (.pointer (some (Addr.add x1 3)))) (.one (.at .ptr)) (fun (x3 : (Option Addr)) w4 =>
  R (.returned (.iface 88 (.pointer x3))) w4) w2) w)
def pipes_Source_Failure.M (R : Ending → World → Prop) (s_0 : (Option Addr)) (w : World) : Prop :=
  Pu Tryd.prog (do eqGuard .eql 52 (.tmp 3) (.const (.pointer none)) (.pointer s_0) (.pointer none); binOp .eql 52 (.pointer s_0) (.pointer none)) (.one (.at .bool)) (fun (x5 : Bool) w6 =>
  Cd x5 (pipes_Source_Failure.j1 R s_0 true w6) (Pu Tryd.prog (nilCk s_0) (.one (.at .addr)) (fun (x7 : Addr) w8 =>
  Rd Tryd.prog (Instr.loadAt 3 (.pointer (some (Addr.add x7 2)))) (.one (.at (.int .i64))) (fun (x9 : Int) w10 =>
  pipes_Source_Failure.j1 R s_0 (decide (x9 < 0)) w10) w8) w6)) w
noncomputable def pipes_Source_Failure.ann (R : Ending → World → Prop) : Ann :=
  .seq (.reg (.op 0 .now (.done))) (.seq (.join [(0, .at .ptr), (11, .at .bool)] (fun s w => pipes_Source_Failure.j1 R s.1 s.2.1 w) (.reg (.op 0 .now (.op 1 (.pu (.one (.at .bool))) (.op 2 .now (.split 2 (.skip 3 (.skip 4 (.skip 5 (.skip 6 (.skip 7 (.op 8 .now (.done))))))) (.op 3 .now (.op 4 (.pu (.one (.at .addr))) (.op 5 .now (.op 6 (.rd (.one (.at (.int .i64)))) (.op 7 .now (.op 8 .now (.done)))))))))))) (.cond (.seq (.reg (.op 0 .now (.done))) (.leaf)) (.leaf))) (.seq (.reg (.op 0 .now (.op 1 (.pu (.one (.at .addr))) (.op 2 .now (.op 3 (.rd (.one (.at .ptr))) (.op 4 .now (.op 5 .now (.done)))))))) (.leaf)))
theorem pipes_Source_Failure.run (R : Ending → World → Prop) (s_0 : (Option Addr)) (w : World) (h : pipes_Source_Failure.M R s_0 w) : Calls Tryd.prog 36 #[(.pointer s_0)] w R := by
  refine calls_of_lift mix_eqb Tryd.func36 (c := pipes_Source_Failure.body) (by kernel_rfl) [.at .any] (pipes_Source_Failure.ann R) 17 Tryd.ntmps36 [.tmp 2] (by kernel_rfl) (Nat.le_of_ble_eq_true (by kernel_rfl)) ?_ ?_
  · exact ⟨trivial, ⟨⟨fun s w h => Eq.mp (by kernel_rfl) h, trivial, ⟨⟨trivial, trivial⟩, trivial⟩⟩, ⟨trivial, trivial⟩⟩⟩
  · exact Eq.mp (show pipes_Source_Failure.M R s_0 w = _ by kernel_rfl) h

noncomputable def pipes_Sink_Failure.body : Code := (Tryd.f37.body).getD .skip
def pipes_Sink_Failure.j1 (R : Ending → World → Prop)  (s_0 : (Option Addr)) (t11 : Bool) (w : World) : Prop :=
  Cd t11 (R (.returned .nilIface) w) (Pu Tryd.prog (nilCk s_0) (.one (.at .addr)) (fun (x1 : Addr) w2 =>
  Rd Tryd.prog (Instr.loadAt 88 (.pointer (some (Addr.add x1 2)))) (.one (.at .ptr)) (fun (x3 : (Option Addr)) w4 =>
  R (.returned (.iface 88 (.pointer x3))) w4) w2) w)
def pipes_Sink_Failure.M (R : Ending → World → Prop) (s_0 : (Option Addr)) (w : World) : Prop :=
  Pu Tryd.prog (do eqGuard .eql 64 (.tmp 3) (.const (.pointer none)) (.pointer s_0) (.pointer none); binOp .eql 64 (.pointer s_0) (.pointer none)) (.one (.at .bool)) (fun (x5 : Bool) w6 =>
  Cd x5 (pipes_Sink_Failure.j1 R s_0 true w6) (Pu Tryd.prog (nilCk s_0) (.one (.at .addr)) (fun (x7 : Addr) w8 =>
  Rd Tryd.prog (Instr.loadAt 3 (.pointer (some (Addr.add x7 1)))) (.one (.at (.int .i64))) (fun (x9 : Int) w10 =>
  pipes_Sink_Failure.j1 R s_0 (decide (x9 < 0)) w10) w8) w6)) w
noncomputable def pipes_Sink_Failure.ann (R : Ending → World → Prop) : Ann :=
  .seq (.reg (.op 0 .now (.done))) (.seq (.join [(0, .at .ptr), (11, .at .bool)] (fun s w => pipes_Sink_Failure.j1 R s.1 s.2.1 w) (.reg (.op 0 .now (.op 1 (.pu (.one (.at .bool))) (.op 2 .now (.split 2 (.skip 3 (.skip 4 (.skip 5 (.skip 6 (.skip 7 (.op 8 .now (.done))))))) (.op 3 .now (.op 4 (.pu (.one (.at .addr))) (.op 5 .now (.op 6 (.rd (.one (.at (.int .i64)))) (.op 7 .now (.op 8 .now (.done)))))))))))) (.cond (.seq (.reg (.op 0 .now (.done))) (.leaf)) (.leaf))) (.seq (.reg (.op 0 .now (.op 1 (.pu (.one (.at .addr))) (.op 2 .now (.op 3 (.rd (.one (.at .ptr))) (.op 4 .now (.op 5 .now (.done)))))))) (.leaf)))
theorem pipes_Sink_Failure.run (R : Ending → World → Prop) (s_0 : (Option Addr)) (w : World) (h : pipes_Sink_Failure.M R s_0 w) : Calls Tryd.prog 37 #[(.pointer s_0)] w R := by
  refine calls_of_lift mix_eqb Tryd.func37 (c := pipes_Sink_Failure.body) (by kernel_rfl) [.at .any] (pipes_Sink_Failure.ann R) 17 Tryd.ntmps37 [.tmp 2] (by kernel_rfl) (Nat.le_of_ble_eq_true (by kernel_rfl)) ?_ ?_
  · exact ⟨trivial, ⟨⟨fun s w h => Eq.mp (by kernel_rfl) h, trivial, ⟨⟨trivial, trivial⟩, trivial⟩⟩, ⟨trivial, trivial⟩⟩⟩
  · exact Eq.mp (show pipes_Sink_Failure.M R s_0 w = _ by kernel_rfl) h

noncomputable def pipes_Source_Taken.body : Code := (Tryd.f38.body).getD .skip
def pipes_Source_Taken.M (R : Ending → World → Prop) (s_0 : (Option Addr)) (w : World) : Prop :=
  Pu Tryd.prog (do eqGuard .eql 52 (.tmp 3) (.const (.pointer none)) (.pointer s_0) (.pointer none); binOp .eql 52 (.pointer s_0) (.pointer none)) (.one (.at .bool)) (fun (x1 : Bool) w2 =>
  Cd x1 (R (.returned (.int .i64 0)) w2) (Pu Tryd.prog (nilCk s_0) (.one (.at .addr)) (fun (x3 : Addr) w4 =>
  Rd Tryd.prog (Instr.loadAt 3 (.pointer (some (Addr.add x3 4)))) (.one (.at (.int .i64))) (fun (x5 : Int) w6 =>
  R (.returned (.int .i64 x5)) w6) w4) w2)) w
noncomputable def pipes_Source_Taken.ann (R : Ending → World → Prop) : Ann :=
  .seq (.reg (.op 0 .now (.done))) (.seq (.seq (.reg (.op 0 .now (.op 1 (.pu (.one (.at .bool))) (.done)))) (.cond (.seq (.reg (.op 0 .now (.done))) (.leaf)) (.leaf))) (.seq (.reg (.op 0 .now (.op 1 (.pu (.one (.at .addr))) (.op 2 .now (.op 3 (.rd (.one (.at (.int .i64)))) (.op 4 .now (.done))))))) (.leaf)))
theorem pipes_Source_Taken.run (R : Ending → World → Prop) (s_0 : (Option Addr)) (w : World) (h : pipes_Source_Taken.M R s_0 w) : Calls Tryd.prog 38 #[(.pointer s_0)] w R := by
  refine calls_of_lift mix_eqb Tryd.func38 (c := pipes_Source_Taken.body) (by kernel_rfl) [.at (.int .i64)] (pipes_Source_Taken.ann R) 9 Tryd.ntmps38 [.tmp 2] (by kernel_rfl) (Nat.le_of_ble_eq_true (by kernel_rfl)) ?_ ?_
  · exact ⟨trivial, ⟨⟨trivial, ⟨⟨trivial, trivial⟩, trivial⟩⟩, ⟨trivial, trivial⟩⟩⟩
  · exact Eq.mp (show pipes_Source_Taken.M R s_0 w = _ by kernel_rfl) h

noncomputable def stream_whole_pipesSource.body : Code := (Tryd.f39.body).getD .skip
def stream_whole_pipesSource.b1 (R : Ending → World → Prop) (k1 : (Sl × Int × Int × Unit) → World → Prop) (t5 : Sl) (t6 : Int) (t7 : Int) (w : World) : Prop :=
  Cd (decide (t7 < t6)) (Pu Tryd.prog (Instr.indexAt 39 (.slice t5.base t5.len t5.cap) (.int .i64 t7)) (.one (.at .addr)) (fun (x1 : Addr) w2 =>
  Rd Tryd.prog (Instr.loadAt 52 (.pointer (some x1))) (.one (.at .ptr)) (fun (x3 : (Option Addr)) w4 =>
  Pu Tryd.prog (do eqGuard .eql 52 (.tmp 11) (.const (.pointer none)) (.pointer x3) (.pointer none); binOp .eql 52 (.pointer x3) (.pointer none)) (.one (.at .bool)) (fun (x5 : Bool) w6 =>
  Cd x5 (R (.returned (.bool false)) w6) (k1 (t5, t6, (IntKind.wrap .i64 (t7 + 1)), ()) w6)) w4) w2) w) (R (.returned (.bool true)) w)
def stream_whole_pipesSource.l1 (R : Ending → World → Prop) : (Sl × Int × Int × Unit) → World → Prop := loopW (fun k1 s w => stream_whole_pipesSource.b1 R k1 s.1 s.2.1 s.2.2.1 w)
def stream_whole_pipesSource.M (R : Ending → World → Prop) (list_0 : Sl) (w : World) : Prop :=
  stream_whole_pipesSource.l1 R (list_0, ((list_0.len : Nat) : Int), 0, ()) w
noncomputable def stream_whole_pipesSource.ann (R : Ending → World → Prop) : Ann :=
  .seq (.reg (.op 0 .now (.done))) (.seq (.seq (.reg (.op 0 .now (.op 1 .now (.op 2 .now (.done))))) (.block (.loop [(5, .at .sl), (6, .at (.int .i64)), (7, .at (.int .i64))] (fun k1 s w => stream_whole_pipesSource.b1 R k1 s.1 s.2.1 s.2.2.1 w) (fun k1 => .seq (.reg (.op 0 .now (.done))) (.seq (.cond (.leaf) (.leaf)) (.seq (.block (.seq (.reg (.op 0 (.pu (.one (.at .addr))) (.op 1 (.rd (.one (.at .ptr))) (.op 2 .now (.done))))) (.seq (.reg (.op 0 .now (.op 1 (.pu (.one (.at .bool))) (.done)))) (.cond (.seq (.reg (.op 0 .now (.done))) (.leaf)) (.leaf))))) (.reg (.op 0 .now (.op 1 .now (.done)))))))))) (.seq (.reg (.op 0 .now (.done))) (.leaf)))
theorem stream_whole_pipesSource.run (R : Ending → World → Prop) (list_0 : Sl) (w : World) (h : stream_whole_pipesSource.M R list_0 w) : Calls Tryd.prog 39 #[(.slice list_0.base list_0.len list_0.cap)] w R := by
  refine calls_of_lift mix_eqb Tryd.func39 (c := stream_whole_pipesSource.body) (by kernel_rfl) [.at .bool] (stream_whole_pipesSource.ann R) 14 Tryd.ntmps39 [.tmp 2] (by kernel_rfl) (Nat.le_of_ble_eq_true (by kernel_rfl)) ?_ ?_
  · exact ⟨trivial, ⟨⟨trivial, (fun k1 => ⟨fun s w h => Eq.mp (by kernel_rfl) h, ⟨trivial, ⟨⟨trivial, trivial⟩, ⟨⟨trivial, ⟨trivial, ⟨⟨trivial, trivial⟩, trivial⟩⟩⟩, trivial⟩⟩⟩⟩)⟩, ⟨trivial, trivial⟩⟩⟩
  · exact Eq.mp (show stream_whole_pipesSource.M R list_0 w = _ by kernel_rfl) h

noncomputable def culletref24_sources.body : Code := (Tryd.f40.body).getD .skip
def culletref24_sources.b1 (R : Ending → World → Prop) (k1 : (Sl × Int × Int × Unit) → World → Prop) (t5 : Sl) (t6 : Int) (t7 : Int) (w : World) : Prop :=
  Cd (decide (t7 < t6)) (Pu Tryd.prog (Instr.indexAt 41 (.slice t5.base t5.len t5.cap) (.int .i64 t7)) (.one (.at .addr)) (fun (x1 : Addr) w2 =>
  Rd Tryd.prog (Instr.loadAt 56 (.pointer (some x1))) (.one (.at .ptr)) (fun (x3 : (Option Addr)) w4 =>
  Pu Tryd.prog (do eqGuard .eql 56 (.tmp 11) (.const (.pointer none)) (.pointer x3) (.pointer none); binOp .eql 56 (.pointer x3) (.pointer none)) (.one (.at .bool)) (fun (x5 : Bool) w6 =>
  Cd x5 (R (.returned (.bool false)) w6) (k1 (t5, t6, (IntKind.wrap .i64 (t7 + 1)), ()) w6)) w4) w2) w) (R (.returned (.bool true)) w)
def culletref24_sources.l1 (R : Ending → World → Prop) : (Sl × Int × Int × Unit) → World → Prop := loopW (fun k1 s w => culletref24_sources.b1 R k1 s.1 s.2.1 s.2.2.1 w)
def culletref24_sources.M (R : Ending → World → Prop) (list_0 : Sl) (w : World) : Prop :=
  culletref24_sources.l1 R (list_0, ((list_0.len : Nat) : Int), 0, ()) w
noncomputable def culletref24_sources.ann (R : Ending → World → Prop) : Ann :=
  .seq (.reg (.op 0 .now (.done))) (.seq (.seq (.reg (.op 0 .now (.op 1 .now (.op 2 .now (.done))))) (.block (.loop [(5, .at .sl), (6, .at (.int .i64)), (7, .at (.int .i64))] (fun k1 s w => culletref24_sources.b1 R k1 s.1 s.2.1 s.2.2.1 w) (fun k1 => .seq (.reg (.op 0 .now (.done))) (.seq (.cond (.leaf) (.leaf)) (.seq (.block (.seq (.reg (.op 0 (.pu (.one (.at .addr))) (.op 1 (.rd (.one (.at .ptr))) (.op 2 .now (.done))))) (.seq (.reg (.op 0 .now (.op 1 (.pu (.one (.at .bool))) (.done)))) (.cond (.seq (.reg (.op 0 .now (.done))) (.leaf)) (.leaf))))) (.reg (.op 0 .now (.op 1 .now (.done)))))))))) (.seq (.reg (.op 0 .now (.done))) (.leaf)))
theorem culletref24_sources.run (R : Ending → World → Prop) (list_0 : Sl) (w : World) (h : culletref24_sources.M R list_0 w) : Calls Tryd.prog 40 #[(.slice list_0.base list_0.len list_0.cap)] w R := by
  refine calls_of_lift mix_eqb Tryd.func40 (c := culletref24_sources.body) (by kernel_rfl) [.at .bool] (culletref24_sources.ann R) 14 Tryd.ntmps40 [.tmp 2] (by kernel_rfl) (Nat.le_of_ble_eq_true (by kernel_rfl)) ?_ ?_
  · exact ⟨trivial, ⟨⟨trivial, (fun k1 => ⟨fun s w h => Eq.mp (by kernel_rfl) h, ⟨trivial, ⟨⟨trivial, trivial⟩, ⟨⟨trivial, ⟨trivial, ⟨⟨trivial, trivial⟩, trivial⟩⟩⟩, trivial⟩⟩⟩⟩)⟩, ⟨trivial, trivial⟩⟩⟩
  · exact Eq.mp (show culletref24_sources.M R list_0 w = _ by kernel_rfl) h

noncomputable def engine_Engine_Options.body : Code := (Tryd.f48.body).getD .skip
def engine_Engine_Options.M (R : Ending → World → Prop) (e_0 : (Option Addr)) (w : World) : Prop :=
  Wr Tryd.prog (Instr.alloc 26 true (.tuple #[])) (.one (.at .addr)) (fun (x1 : Addr) w2 =>
  Pu Tryd.prog (do eqGuard .eql 32 (.tmp 5) (.const (.pointer none)) (.pointer e_0) (.pointer none); binOp .eql 32 (.pointer e_0) (.pointer none)) (.one (.at .bool)) (fun (x3 : Bool) w4 =>
  Cd x3 (Wu Tryd.prog (Instr.storeAt 26 (.pointer (some x1)) (.agg #[(.int .i64 0), (.int .i64 0), (.int .i64 0), (.int .i64 0), (.int .i64 0), (.int .i64 0), (.int .i64 0), (.bool false), (.slice none 0 0)])) (fun w5 =>
  ∃ r6 : (Int × Int × Int × Int × Int × Int × Int × Bool × Sl × Unit), (loadVar 26 x1).run Tryd.prog w5 = .ok (.agg #[(.int .i64 r6.1), (.int .i64 r6.2.1), (.int .i64 r6.2.2.1), (.int .i64 r6.2.2.2.1), (.int .i64 r6.2.2.2.2.1), (.int .i64 r6.2.2.2.2.2.1), (.int .i64 r6.2.2.2.2.2.2.1), (.bool r6.2.2.2.2.2.2.2.1), (.slice r6.2.2.2.2.2.2.2.2.1.base r6.2.2.2.2.2.2.2.2.1.len r6.2.2.2.2.2.2.2.2.1.cap)]) w5 ∧ R (.returned (.tuple #[(.agg #[(.int .i64 r6.1), (.int .i64 r6.2.1), (.int .i64 r6.2.2.1), (.int .i64 r6.2.2.2.1), (.int .i64 r6.2.2.2.2.1), (.int .i64 r6.2.2.2.2.2.1), (.int .i64 r6.2.2.2.2.2.2.1), (.bool r6.2.2.2.2.2.2.2.1), (.slice r6.2.2.2.2.2.2.2.2.1.base r6.2.2.2.2.2.2.2.2.1.len r6.2.2.2.2.2.2.2.2.1.cap)]), (.int .i64 1)])) w5) w4) (Pu Tryd.prog (nilCk e_0) (.one (.at .addr)) (fun (x7 : Addr) w8 =>
  Rd Tryd.prog (Instr.loadAt 26 (.pointer (some x7))) (.one (.agg [.int .i64, .int .i64, .int .i64, .int .i64, .int .i64, .int .i64, .int .i64, .bool, .sl])) (fun x9 w10 =>
  Wr Tryd.prog (Instr.alloc 26 true (.tuple #[])) (.one (.at .addr)) (fun (x11 : Addr) w12 =>
  Wu Tryd.prog (Instr.storeAt 26 (.pointer (some x11)) (.agg #[(.int .i64 x9.1), (.int .i64 x9.2.1), (.int .i64 x9.2.2.1), (.int .i64 x9.2.2.2.1), (.int .i64 x9.2.2.2.2.1), (.int .i64 x9.2.2.2.2.2.1), (.int .i64 x9.2.2.2.2.2.2.1), (.bool x9.2.2.2.2.2.2.2.1), (.slice x9.2.2.2.2.2.2.2.2.1.base x9.2.2.2.2.2.2.2.2.1.len x9.2.2.2.2.2.2.2.2.1.cap)])) (fun w13 =>
  Rd Tryd.prog (Instr.loadAt 24 (.pointer (some (Addr.add x11 8)))) (.one (.at .sl)) (fun (x14 : Sl) w15 =>
  Wr Tryd.prog (Builtin.append_ #[24, 24] 24 #[(.slice none 0 0), (.slice x14.base x14.len x14.cap)]) (.one (.at .sl)) (fun (x16 : Sl) w17 =>
  Wu Tryd.prog (Instr.storeAt 24 (.pointer (some (Addr.add x11 8))) (.slice x16.base x16.len x16.cap)) (fun w18 =>
  Rd Tryd.prog (Instr.loadAt 26 (.pointer (some x11))) (.one (.agg [.int .i64, .int .i64, .int .i64, .int .i64, .int .i64, .int .i64, .int .i64, .bool, .sl])) (fun x19 w20 =>
  Wu Tryd.prog (Instr.storeAt 26 (.pointer (some x1)) (.agg #[(.int .i64 x19.1), (.int .i64 x19.2.1), (.int .i64 x19.2.2.1), (.int .i64 x19.2.2.2.1), (.int .i64 x19.2.2.2.2.1), (.int .i64 x19.2.2.2.2.2.1), (.int .i64 x19.2.2.2.2.2.2.1), (.bool x19.2.2.2.2.2.2.2.1), (.slice x19.2.2.2.2.2.2.2.2.1.base x19.2.2.2.2.2.2.2.2.1.len x19.2.2.2.2.2.2.2.2.1.cap)])) (fun w21 =>
  ∃ r22 : (Int × Int × Int × Int × Int × Int × Int × Bool × Sl × Unit), (loadVar 26 x1).run Tryd.prog w21 = .ok (.agg #[(.int .i64 r22.1), (.int .i64 r22.2.1), (.int .i64 r22.2.2.1), (.int .i64 r22.2.2.2.1), (.int .i64 r22.2.2.2.2.1), (.int .i64 r22.2.2.2.2.2.1), (.int .i64 r22.2.2.2.2.2.2.1), (.bool r22.2.2.2.2.2.2.2.1), (.slice r22.2.2.2.2.2.2.2.2.1.base r22.2.2.2.2.2.2.2.2.1.len r22.2.2.2.2.2.2.2.2.1.cap)]) w21 ∧ R (.returned (.tuple #[(.agg #[(.int .i64 r22.1), (.int .i64 r22.2.1), (.int .i64 r22.2.2.1), (.int .i64 r22.2.2.2.1), (.int .i64 r22.2.2.2.2.1), (.int .i64 r22.2.2.2.2.2.1), (.int .i64 r22.2.2.2.2.2.2.1), (.bool r22.2.2.2.2.2.2.2.1), (.slice r22.2.2.2.2.2.2.2.2.1.base r22.2.2.2.2.2.2.2.2.1.len r22.2.2.2.2.2.2.2.2.1.cap)]), (.int .i64 0)])) w21) w20) w18) w17) w15) w13) w12) w10) w8) w4)) w2) w
noncomputable def engine_Engine_Options.ann (R : Ending → World → Prop) : Ann :=
  .seq (.reg (.op 0 (.wr (.one (.at .addr))) (.op 1 .now (.done)))) (.seq (.seq (.reg (.op 0 .now (.op 1 (.pu (.one (.at .bool))) (.done)))) (.cond (.seq (.reg (.op 0 .now (.op 1 .wu (.op 2 .now (.done))))) (.leaf)) (.leaf))) (.seq (.reg (.op 0 .now (.op 1 (.pu (.one (.at .addr))) (.op 2 .now (.op 3 (.rd (.one (.agg [.int .i64, .int .i64, .int .i64, .int .i64, .int .i64, .int .i64, .int .i64, .bool, .sl]))) (.op 4 (.wr (.one (.at .addr))) (.op 5 .wu (.done)))))))) (.seq (.reg (.op 0 .now (.op 1 (.rd (.one (.at .sl))) (.op 2 (.wr (.one (.at .sl))) (.op 3 .now (.op 4 .wu (.done))))))) (.seq (.reg (.op 0 (.rd (.one (.agg [.int .i64, .int .i64, .int .i64, .int .i64, .int .i64, .int .i64, .int .i64, .bool, .sl]))) (.op 1 .wu (.op 2 .now (.done))))) (.leaf)))))
theorem engine_Engine_Options.run (R : Ending → World → Prop) (e_0 : (Option Addr)) (w : World) (h : engine_Engine_Options.M R e_0 w) : Calls Tryd.prog 48 #[(.pointer e_0)] w R := by
  refine calls_of_lift mix_eqb Tryd.func48 (c := engine_Engine_Options.body) (by kernel_rfl) [.agg [.int .i64, .int .i64, .int .i64, .int .i64, .int .i64, .int .i64, .int .i64, .bool, .sl], .at (.int .i64)] (engine_Engine_Options.ann R) 17 Tryd.ntmps48 [.cell 2 26, .tmp 3] (by kernel_rfl) (Nat.le_of_ble_eq_true (by kernel_rfl)) ?_ ?_
  · exact ⟨trivial, ⟨⟨trivial, ⟨⟨trivial, trivial⟩, trivial⟩⟩, ⟨trivial, ⟨trivial, ⟨trivial, trivial⟩⟩⟩⟩⟩
  · exact Eq.mp (show engine_Engine_Options.M R e_0 w = _ by kernel_rfl) h

noncomputable def pipes_Full.body : Code := (Tryd.f50.body).getD .skip
def pipes_Full.M (R : Ending → World → Prop) (r_0 : Value) (p_1 : Sl) (w : World) : Prop :=
  Pu Tryd.prog (do eqGuard .eql 171 (.tmp 6) (.const .nilIface) r_0 .nilIface; binOp .eql 171 r_0 .nilIface) (.one (.at .bool)) (fun (x1 : Bool) w2 =>
  Cd x1 (R (.returned (.tuple #[(.int .i64 0), (.iface 74 (.int .i64 1))])) w2) (Nx Tryd.prog (nilAny r_0) (.one (.at .any)) (fun x3 w4 =>
  Cl Tryd.prog 66 #[(.slice p_1.base p_1.len p_1.cap), (.func (.method "Read") #[x3] #[])] (.tup [.at (.int .i64), .at .any]) (fun x5 w6 =>
  R (.returned (.tuple #[(.int .i64 x5.1), x5.2.1])) w6) w4) w2)) w
noncomputable def pipes_Full.ann (R : Ending → World → Prop) : Ann :=
  .seq (.reg (.op 0 .now (.op 1 .now (.done)))) (.seq (.seq (.reg (.op 0 .now (.op 1 (.pu (.one (.at .bool))) (.done)))) (.cond (.seq (.reg (.op 0 .now (.op 1 .now (.op 2 .now (.done))))) (.leaf)) (.leaf))) (.seq (.reg (.op 0 .now (.op 1 .now (.op 2 (.nx (.one (.at .any))) (.op 3 .now (.op 4 (.cl (.tup [.at (.int .i64), .at .any])) (.op 5 .now (.op 6 .now (.op 7 .now (.op 8 .now (.done))))))))))) (.leaf)))
theorem pipes_Full.run (R : Ending → World → Prop) (r_0 : Value) (p_1 : Sl) (w : World) (h : pipes_Full.M R r_0 p_1 w) : Calls Tryd.prog 50 #[r_0, (.slice p_1.base p_1.len p_1.cap)] w R := by
  refine calls_of_lift mix_eqb Tryd.func50 (c := pipes_Full.body) (by kernel_rfl) [.at (.int .i64), .at .any] (pipes_Full.ann R) 16 Tryd.ntmps50 [.tmp 4, .tmp 5] (by kernel_rfl) (Nat.le_of_ble_eq_true (by kernel_rfl)) ?_ ?_
  · exact ⟨trivial, ⟨⟨trivial, ⟨⟨trivial, trivial⟩, trivial⟩⟩, ⟨trivial, trivial⟩⟩⟩
  · exact Eq.mp (show pipes_Full.M R r_0 p_1 w = _ by kernel_rfl) h

noncomputable def pipes_Put.body : Code := (Tryd.f51.body).getD .skip
def pipes_Put.M (R : Ending → World → Prop) (w_0 : Value) (p_1 : Sl) (w : World) : Prop :=
  Pu Tryd.prog (do eqGuard .eql 175 (.tmp 6) (.const .nilIface) w_0 .nilIface; binOp .eql 175 w_0 .nilIface) (.one (.at .bool)) (fun (x1 : Bool) w2 =>
  Cd x1 (R (.returned (.tuple #[(.int .i64 0), (.iface 74 (.int .i64 1))])) w2) (Nx Tryd.prog (nilAny w_0) (.one (.at .any)) (fun x3 w4 =>
  Cl Tryd.prog 66 #[(.slice p_1.base p_1.len p_1.cap), (.func (.method "Write") #[x3] #[])] (.tup [.at (.int .i64), .at .any]) (fun x5 w6 =>
  R (.returned (.tuple #[(.int .i64 x5.1), x5.2.1])) w6) w4) w2)) w
noncomputable def pipes_Put.ann (R : Ending → World → Prop) : Ann :=
  .seq (.reg (.op 0 .now (.op 1 .now (.done)))) (.seq (.seq (.reg (.op 0 .now (.op 1 (.pu (.one (.at .bool))) (.done)))) (.cond (.seq (.reg (.op 0 .now (.op 1 .now (.op 2 .now (.done))))) (.leaf)) (.leaf))) (.seq (.reg (.op 0 .now (.op 1 .now (.op 2 (.nx (.one (.at .any))) (.op 3 .now (.op 4 (.cl (.tup [.at (.int .i64), .at .any])) (.op 5 .now (.op 6 .now (.op 7 .now (.op 8 .now (.done))))))))))) (.leaf)))
theorem pipes_Put.run (R : Ending → World → Prop) (w_0 : Value) (p_1 : Sl) (w : World) (h : pipes_Put.M R w_0 p_1 w) : Calls Tryd.prog 51 #[w_0, (.slice p_1.base p_1.len p_1.cap)] w R := by
  refine calls_of_lift mix_eqb Tryd.func51 (c := pipes_Put.body) (by kernel_rfl) [.at (.int .i64), .at .any] (pipes_Put.ann R) 16 Tryd.ntmps51 [.tmp 4, .tmp 5] (by kernel_rfl) (Nat.le_of_ble_eq_true (by kernel_rfl)) ?_ ?_
  · exact ⟨trivial, ⟨⟨trivial, ⟨⟨trivial, trivial⟩, trivial⟩⟩, ⟨trivial, trivial⟩⟩⟩
  · exact Eq.mp (show pipes_Put.M R w_0 p_1 w = _ by kernel_rfl) h

noncomputable def culletref24_Source_read.body : Code := (Tryd.f53.body).getD .skip
def culletref24_Source_read.j4 (R : Ending → World → Prop)  (s_0 : (Option Addr)) (n_6 : Int) (w : World) : Prop :=
  Pu Tryd.prog (nilCk s_0) (.one (.at .addr)) (fun (x9 : Addr) w10 =>
  Rd Tryd.prog (Instr.loadAt 3 (.pointer (some (Addr.add x9 4)))) (.one (.at (.int .i64))) (fun (x11 : Int) w12 =>
  Pu Tryd.prog (nilCk s_0) (.one (.at .addr)) (fun (x13 : Addr) w14 =>
  Wu Tryd.prog (Instr.storeAt 3 (.pointer (some (Addr.add x13 4))) (.int .i64 (IntKind.wrap .i64 (x11 + 1)))) (fun w15 =>
  Cd (decide (n_6 ≤ 0)) (R (.returned (.tuple #[(.slice none 0 0), (.int .i64 0)])) w15) (Pu Tryd.prog (nilCk s_0) (.one (.at .addr)) (fun (x16 : Addr) w17 =>
  RdS Tryd.prog (Same w15.drew) (Instr.loadAt 67 (.pointer (some x16))) (.one (.at .sl)) (fun (x18 : Sl) w19 =>
  Pu Tryd.prog (nilCk s_0) (.one (.at .addr)) (fun (x20 : Addr) w21 =>
  RdS Tryd.prog (Same w15.drew) (Instr.loadAt 3 (.pointer (some (Addr.add x20 3)))) (.one (.at (.int .i64))) (fun (x22 : Int) w23 =>
  Pu Tryd.prog (nilCk s_0) (.one (.at .addr)) (fun (x24 : Addr) w25 =>
  RdS Tryd.prog (Same w15.drew) (Instr.loadAt 3 (.pointer (some (Addr.add x24 3)))) (.one (.at (.int .i64))) (fun (x26 : Int) w27 =>
  Pu Tryd.prog (Instr.sliceAt 67 (.slice x18.base x18.len x18.cap) (some (.int .i64 x22)) (some (.int .i64 (IntKind.wrap .i64 (x26 + n_6)))) none) (.one (.at .sl)) (fun (x28 : Sl) w29 =>
  Pu Tryd.prog (nilCk s_0) (.one (.at .addr)) (fun (x30 : Addr) w31 =>
  Rd Tryd.prog (Instr.loadAt 3 (.pointer (some (Addr.add x30 3)))) (.one (.at (.int .i64))) (fun (x32 : Int) w33 =>
  Pu Tryd.prog (nilCk s_0) (.one (.at .addr)) (fun (x34 : Addr) w35 =>
  Wu Tryd.prog (Instr.storeAt 3 (.pointer (some (Addr.add x34 3))) (.int .i64 (IntKind.wrap .i64 (x32 + n_6)))) (fun w36 =>
  R (.returned (.tuple #[(.slice x28.base x28.len x28.cap), (.int .i64 0)])) w36) w35) w33) w31) w29) w27) w25) w23) w21) w19) w17) w15.drew)) w14) w12) w10) w
def culletref24_Source_read.j3 (R : Ending → World → Prop)  (s_0 : (Option Addr)) (n_6 : Int) (w : World) : Prop :=
  Pu Tryd.prog (nilCk s_0) (.one (.at .addr)) (fun (x37 : Addr) w38 =>
  Rd Tryd.prog (Instr.loadAt 24 (.pointer (some (Addr.add x37 1)))) (.one (.at .sl)) (fun (x39 : Sl) w40 =>
  Cd (decide (((x39.len : Nat) : Int) > 0)) (Pu Tryd.prog (nilCk s_0) (.one (.at .addr)) (fun (x41 : Addr) w42 =>
  RdS Tryd.prog (Same w40.drew) (Instr.loadAt 24 (.pointer (some (Addr.add x41 1)))) (.one (.at .sl)) (fun (x43 : Sl) w44 =>
  Pu Tryd.prog (nilCk s_0) (.one (.at .addr)) (fun (x45 : Addr) w46 =>
  RdS Tryd.prog (Same w40.drew) (Instr.loadAt 3 (.pointer (some (Addr.add x45 4)))) (.one (.at (.int .i64))) (fun (x47 : Int) w48 =>
  Pu Tryd.prog (nilCk s_0) (.one (.at .addr)) (fun (x49 : Addr) w50 =>
  RdS Tryd.prog (Same w40.drew) (Instr.loadAt 24 (.pointer (some (Addr.add x49 1)))) (.one (.at .sl)) (fun (x51 : Sl) w52 =>
  Pu Tryd.prog (do eqGuard .rem 3 (.tmp 91) (.tmp 96) (.int .i64 x47) (.int .i64 ((x51.len : Nat) : Int)); binOp .rem 3 (.int .i64 x47) (.int .i64 ((x51.len : Nat) : Int))) (.one (.at (.int .i64))) (fun (x53 : Int) w54 =>
  Pu Tryd.prog (Instr.indexAt 24 (.slice x43.base x43.len x43.cap) (.int .i64 x53)) (.one (.at .addr)) (fun (x55 : Addr) w56 =>
  RdS Tryd.prog (Same w40.drew) (Instr.loadAt 3 (.pointer (some x55))) (.one (.at (.int .i64))) (fun (x57 : Int) w58 =>
  Cd (decide (x57 < n_6)) (culletref24_Source_read.j4 R s_0 x57 w58) (culletref24_Source_read.j4 R s_0 n_6 w58)) w56) w54) w52) w50) w48) w46) w44) w42) w40.drew) (culletref24_Source_read.j4 R s_0 n_6 w40)) w38) w
def culletref24_Source_read.j5 (R : Ending → World → Prop)  (s_0 : (Option Addr)) (n_6 : Int) (t68 : Bool) (w : World) : Prop :=
  Cd t68 (Pu Tryd.prog (nilCk s_0) (.one (.at .addr)) (fun (x59 : Addr) w60 =>
  RdS Tryd.prog (Same w.drew) (Instr.loadAt 3 (.pointer (some (Addr.add x59 2)))) (.one (.at (.int .i64))) (fun (x61 : Int) w62 =>
  Pu Tryd.prog (nilCk s_0) (.one (.at .addr)) (fun (x63 : Addr) w64 =>
  RdS Tryd.prog (Same w.drew) (Instr.loadAt 3 (.pointer (some (Addr.add x63 3)))) (.one (.at (.int .i64))) (fun (x65 : Int) w66 =>
  culletref24_Source_read.j3 R s_0 (IntKind.wrap .i64 (x61 - x65)) w66) w64) w62) w60) w.drew) (culletref24_Source_read.j3 R s_0 n_6 w)
def culletref24_Source_read.j2 (R : Ending → World → Prop)  (s_0 : (Option Addr)) (n_6 : Int) (w : World) : Prop :=
  Pu Tryd.prog (nilCk s_0) (.one (.at .addr)) (fun (x67 : Addr) w68 =>
  RdS Tryd.prog (Same w.drew) (Instr.loadAt 3 (.pointer (some (Addr.add x67 2)))) (.one (.at (.int .i64))) (fun (x69 : Int) w70 =>
  Cd (decide (x69 ≥ 0)) (Pu Tryd.prog (nilCk s_0) (.one (.at .addr)) (fun (x71 : Addr) w72 =>
  RdS Tryd.prog (Same w.drew) (Instr.loadAt 3 (.pointer (some (Addr.add x71 2)))) (.one (.at (.int .i64))) (fun (x73 : Int) w74 =>
  Pu Tryd.prog (nilCk s_0) (.one (.at .addr)) (fun (x75 : Addr) w76 =>
  RdS Tryd.prog (Same w.drew) (Instr.loadAt 3 (.pointer (some (Addr.add x75 3)))) (.one (.at (.int .i64))) (fun (x77 : Int) w78 =>
  culletref24_Source_read.j5 R s_0 n_6 (decide ((IntKind.wrap .i64 (x73 - x77)) < n_6)) w78) w76) w74) w72) w70) (culletref24_Source_read.j5 R s_0 n_6 false w70)) w68) w.drew
def culletref24_Source_read.j1 (R : Ending → World → Prop)  (s_0 : (Option Addr)) (want_1 : Int) (t25 : Bool) (w : World) : Prop :=
  Cd t25 (R (.returned (.tuple #[(.slice none 0 0), (.int .i64 (-2))])) w) (Pu Tryd.prog (nilCk s_0) (.one (.at .addr)) (fun (x1 : Addr) w2 =>
  RdS Tryd.prog (Same w.drew) (Instr.loadAt 3 (.pointer (some (Addr.add x1 3)))) (.one (.at (.int .i64))) (fun (x3 : Int) w4 =>
  Pu Tryd.prog (nilCk s_0) (.one (.at .addr)) (fun (x5 : Addr) w6 =>
  RdS Tryd.prog (Same w.drew) (Instr.loadAt 67 (.pointer (some x5))) (.one (.at .sl)) (fun (x7 : Sl) w8 =>
  Cd (x3 == ((x7.len : Nat) : Int)) (R (.returned (.tuple #[(.slice none 0 0), (.int .i64 (-1))])) w8) (Pu Tryd.prog (nilCk s_0) (.one (.at .addr)) (fun (x79 : Addr) w80 =>
  RdS Tryd.prog (Same w8.drew) (Instr.loadAt 67 (.pointer (some x79))) (.one (.at .sl)) (fun (x81 : Sl) w82 =>
  Pu Tryd.prog (nilCk s_0) (.one (.at .addr)) (fun (x83 : Addr) w84 =>
  RdS Tryd.prog (Same w8.drew) (Instr.loadAt 3 (.pointer (some (Addr.add x83 3)))) (.one (.at (.int .i64))) (fun (x85 : Int) w86 =>
  Cd (decide ((IntKind.wrap .i64 (((x81.len : Nat) : Int) - x85)) < want_1)) (culletref24_Source_read.j2 R s_0 (IntKind.wrap .i64 (((x81.len : Nat) : Int) - x85)) w86) (culletref24_Source_read.j2 R s_0 want_1 w86)) w84) w82) w80) w8.drew)) w6) w4) w2) w.drew)
def culletref24_Source_read.M (R : Ending → World → Prop) (s_0 : (Option Addr)) (want_1 : Int) (w : World) : Prop :=
  Pu Tryd.prog (nilCk s_0) (.one (.at .addr)) (fun (x87 : Addr) w88 =>
  RdS Tryd.prog (Same w.drew) (Instr.loadAt 3 (.pointer (some (Addr.add x87 2)))) (.one (.at (.int .i64))) (fun (x89 : Int) w90 =>
  Cd (decide (x89 ≥ 0)) (Pu Tryd.prog (nilCk s_0) (.one (.at .addr)) (fun (x91 : Addr) w92 =>
  RdS Tryd.prog (Same w.drew) (Instr.loadAt 3 (.pointer (some (Addr.add x91 3)))) (.one (.at (.int .i64))) (fun (x93 : Int) w94 =>
  Pu Tryd.prog (nilCk s_0) (.one (.at .addr)) (fun (x95 : Addr) w96 =>
  RdS Tryd.prog (Same w.drew) (Instr.loadAt 3 (.pointer (some (Addr.add x95 2)))) (.one (.at (.int .i64))) (fun (x97 : Int) w98 =>
  culletref24_Source_read.j1 R s_0 want_1 (x93 == x97) w98) w96) w94) w92) w90) (culletref24_Source_read.j1 R s_0 want_1 false w90)) w88) w.drew
noncomputable def culletref24_Source_read.ann (R : Ending → World → Prop) : Ann :=
  .seq (.reg (.op 0 .now (.op 1 .now (.done)))) (.seq (.join [(0, .at .ptr), (1, .at (.int .i64)), (25, .at .bool)] (fun s w => culletref24_Source_read.j1 R s.1 s.2.1 s.2.2.1 w) (.regQ (.op 0 .now (.op 1 (.pu (.one (.at .addr))) (.op 2 .now (.op 3 (.rd (.one (.at (.int .i64)))) (.op 4 .now (.op 5 .now (.split 5 (.op 6 .now (.op 7 (.pu (.one (.at .addr))) (.op 8 .now (.op 9 (.rd (.one (.at (.int .i64)))) (.op 10 .now (.op 11 (.pu (.one (.at .addr))) (.op 12 .now (.op 13 (.rd (.one (.at (.int .i64)))) (.op 14 .now (.op 15 .now (.done))))))))))) (.skip 6 (.skip 7 (.skip 8 (.skip 9 (.skip 10 (.skip 11 (.skip 12 (.skip 13 (.skip 14 (.op 15 .now (.done))))))))))))))))))) (.cond (.seq (.reg (.op 0 .now (.op 1 .now (.done)))) (.leaf)) (.leaf))) (.seq (.seq (.regQ (.op 0 .now (.op 1 (.pu (.one (.at .addr))) (.op 2 .now (.op 3 (.rd (.one (.at (.int .i64)))) (.op 4 .now (.op 5 (.pu (.one (.at .addr))) (.op 6 .now (.op 7 (.rd (.one (.at .sl))) (.op 8 .now (.op 9 .now (.done)))))))))))) (.cond (.seq (.reg (.op 0 .now (.op 1 .now (.done)))) (.leaf)) (.leaf))) (.seq (.reg (.op 0 .now (.op 1 .now (.done)))) (.join [(0, .at .ptr), (6, .at (.int .i64))] (fun s w => culletref24_Source_read.j2 R s.1 s.2.1 w) (.seq (.regQ (.op 0 .now (.op 1 (.pu (.one (.at .addr))) (.op 2 .now (.op 3 (.rd (.one (.at .sl))) (.op 4 .now (.op 5 .now (.op 6 (.pu (.one (.at .addr))) (.op 7 .now (.op 8 (.rd (.one (.at (.int .i64)))) (.op 9 .now (.op 10 .now (.done))))))))))))) (.seq (.reg (.op 0 .now (.op 1 .now (.op 2 .now (.done))))) (.cond (.reg (.op 0 .now (.op 1 .now (.done)))) (.leaf)))) (.join [(0, .at .ptr), (6, .at (.int .i64))] (fun s w => culletref24_Source_read.j3 R s.1 s.2.1 w) (.join [(0, .at .ptr), (6, .at (.int .i64)), (68, .at .bool)] (fun s w => culletref24_Source_read.j5 R s.1 s.2.1 s.2.2.1 w) (.regQ (.op 0 .now (.op 1 (.pu (.one (.at .addr))) (.op 2 .now (.op 3 (.rd (.one (.at (.int .i64)))) (.op 4 .now (.op 5 .now (.split 5 (.op 6 .now (.op 7 (.pu (.one (.at .addr))) (.op 8 .now (.op 9 (.rd (.one (.at (.int .i64)))) (.op 10 .now (.op 11 (.pu (.one (.at .addr))) (.op 12 .now (.op 13 (.rd (.one (.at (.int .i64)))) (.op 14 .now (.op 15 .now (.op 16 .now (.op 17 .now (.done))))))))))))) (.skip 6 (.skip 7 (.skip 8 (.skip 9 (.skip 10 (.skip 11 (.skip 12 (.skip 13 (.skip 14 (.skip 15 (.skip 16 (.op 17 .now (.done))))))))))))))))))))) (.cond (.regQ (.op 0 .now (.op 1 (.pu (.one (.at .addr))) (.op 2 .now (.op 3 (.rd (.one (.at (.int .i64)))) (.op 4 .now (.op 5 (.pu (.one (.at .addr))) (.op 6 .now (.op 7 (.rd (.one (.at (.int .i64)))) (.op 8 .now (.op 9 .now (.done)))))))))))) (.leaf))) (.join [(0, .at .ptr), (6, .at (.int .i64))] (fun s w => culletref24_Source_read.j4 R s.1 s.2.1 w) (.seq (.reg (.op 0 .now (.op 1 (.pu (.one (.at .addr))) (.op 2 .now (.op 3 (.rd (.one (.at .sl))) (.op 4 .now (.op 5 .now (.done)))))))) (.cond (.seq (.regQ (.op 0 .now (.op 1 (.pu (.one (.at .addr))) (.op 2 .now (.op 3 (.rd (.one (.at .sl))) (.op 4 .now (.op 5 (.pu (.one (.at .addr))) (.op 6 .now (.op 7 (.rd (.one (.at (.int .i64)))) (.op 8 .now (.op 9 (.pu (.one (.at .addr))) (.op 10 .now (.op 11 (.rd (.one (.at .sl))) (.op 12 .now (.op 13 (.pu (.one (.at (.int .i64)))) (.op 14 (.pu (.one (.at .addr))) (.op 15 (.rd (.one (.at (.int .i64)))) (.op 16 .now (.done))))))))))))))))))) (.seq (.reg (.op 0 .now (.op 1 .now (.op 2 .now (.done))))) (.cond (.reg (.op 0 .now (.op 1 .now (.done)))) (.leaf)))) (.leaf))) (.seq (.reg (.op 0 .now (.op 1 (.pu (.one (.at .addr))) (.op 2 .now (.op 3 (.rd (.one (.at (.int .i64)))) (.op 4 .now (.op 5 (.pu (.one (.at .addr))) (.op 6 .now (.op 7 .wu (.done)))))))))) (.seq (.seq (.reg (.op 0 .now (.op 1 .now (.done)))) (.cond (.seq (.reg (.op 0 .now (.op 1 .now (.done)))) (.leaf)) (.leaf))) (.seq (.regQ (.op 0 .now (.op 1 (.pu (.one (.at .addr))) (.op 2 .now (.op 3 (.rd (.one (.at .sl))) (.op 4 .now (.op 5 (.pu (.one (.at .addr))) (.op 6 .now (.op 7 (.rd (.one (.at (.int .i64)))) (.op 8 .now (.op 9 (.pu (.one (.at .addr))) (.op 10 .now (.op 11 (.rd (.one (.at (.int .i64)))) (.op 12 .now (.op 13 .now (.op 14 (.pu (.one (.at .sl))) (.op 15 .now (.done)))))))))))))))))) (.seq (.reg (.op 0 .now (.op 1 (.pu (.one (.at .addr))) (.op 2 .now (.op 3 (.rd (.one (.at (.int .i64)))) (.op 4 .now (.op 5 .now (.op 6 (.pu (.one (.at .addr))) (.op 7 .now (.op 8 .wu (.done))))))))))) (.seq (.reg (.op 0 .now (.op 1 .now (.op 2 .now (.done))))) (.leaf))))))))))))
theorem culletref24_Source_read.run (R : Ending → World → Prop) (s_0 : (Option Addr)) (want_1 : Int) (w : World) (h : culletref24_Source_read.M R s_0 want_1 w) : Calls Tryd.prog 53 #[(.pointer s_0), (.int .i64 want_1)] w R := by
  refine calls_of_lift mix_eqb Tryd.func53 (c := culletref24_Source_read.body) (by kernel_rfl) [.at .sl, .at (.int .i64)] (culletref24_Source_read.ann R) 137 Tryd.ntmps53 [.tmp 4, .tmp 5] (by kernel_rfl) (Nat.le_of_ble_eq_true (by kernel_rfl)) ?_ ?_
  · exact ⟨trivial, ⟨⟨fun s w h => Eq.mp (by kernel_rfl) h, (show Region.noSelect _ = true by kernel_rfl), ⟨⟨trivial, trivial⟩, trivial⟩⟩, ⟨⟨(show Region.noSelect _ = true by kernel_rfl), ⟨⟨trivial, trivial⟩, trivial⟩⟩, ⟨trivial, ⟨fun s w h => Eq.mp (by kernel_rfl) h, ⟨(show Region.noSelect _ = true by kernel_rfl), ⟨trivial, ⟨trivial, trivial⟩⟩⟩, ⟨fun s w h => Eq.mp (by kernel_rfl) h, ⟨fun s w h => Eq.mp (by kernel_rfl) h, (show Region.noSelect _ = true by kernel_rfl), ⟨(show Region.noSelect _ = true by kernel_rfl), trivial⟩⟩, ⟨fun s w h => Eq.mp (by kernel_rfl) h, ⟨trivial, ⟨⟨(show Region.noSelect _ = true by kernel_rfl), ⟨trivial, ⟨trivial, trivial⟩⟩⟩, trivial⟩⟩, ⟨trivial, ⟨⟨trivial, ⟨⟨trivial, trivial⟩, trivial⟩⟩, ⟨(show Region.noSelect _ = true by kernel_rfl), ⟨trivial, ⟨trivial, trivial⟩⟩⟩⟩⟩⟩⟩⟩⟩⟩⟩⟩
  · exact Eq.mp (show culletref24_Source_read.M R s_0 want_1 w = _ by kernel_rfl) h

noncomputable def pipes_through.body : Code := (Tryd.f66.body).getD .skip
def pipes_through.j1 (R : Ending → World → Prop)  (done_6 : Int) (w : World) : Prop :=
  R (.returned (.tuple #[(.int .i64 done_6), .nilIface])) w
def pipes_through.j3 (R : Ending → World → Prop)  (k1 : (Sl × Value × Int × Int × Unit) → World → Prop) (p_0 : Sl) (call_1 : Value) (done_6 : Int) (idle_7 : Int) (w : World) : Prop :=
  Cd (idle_7 == 100) (R (.returned (.tuple #[(.int .i64 done_6), (.iface 74 (.int .i64 240))])) w) (k1 (p_0, call_1, done_6, idle_7, ()) w)
def pipes_through.j2 (R : Ending → World → Prop)  (k1 : (Sl × Value × Int × Int × Unit) → World → Prop) (p_0 : Sl) (call_1 : Value) (done_6 : Int) (idle_7 : Int) (n_8 : Int) (err_9 : Value) (t31 : Bool) (w : World) : Prop :=
  Cd t31 (R (.returned (.tuple #[(.int .i64 done_6), (.iface 74 (.int .i64 7))])) w) (Cd ((IntKind.wrap .i64 (done_6 + n_8)) == ((p_0.len : Nat) : Int)) (pipes_through.j1 R (IntKind.wrap .i64 (done_6 + n_8)) w) (Pu Tryd.prog (do eqGuard .neq 50 (.tmp 41) (.const .nilIface) err_9 .nilIface; binOp .neq 50 err_9 .nilIface) (.one (.at .bool)) (fun (x5 : Bool) w6 =>
  Cd x5 (R (.returned (.tuple #[(.int .i64 (IntKind.wrap .i64 (done_6 + n_8))), err_9])) w6) (Cd (decide (n_8 > 0)) (pipes_through.j3 R k1 p_0 call_1 (IntKind.wrap .i64 (done_6 + n_8)) 0 w6) (pipes_through.j3 R k1 p_0 call_1 (IntKind.wrap .i64 (done_6 + n_8)) (IntKind.wrap .i64 (idle_7 + 1)) w6))) w))
def pipes_through.b1 (R : Ending → World → Prop) (k1 : (Sl × Value × Int × Int × Unit) → World → Prop) (p_0 : Sl) (call_1 : Value) (done_6 : Int) (idle_7 : Int) (w : World) : Prop :=
  Cd (decide (done_6 < ((p_0.len : Nat) : Int))) (Pu Tryd.prog (Instr.sliceAt 67 (.slice p_0.base p_0.len p_0.cap) (some (.int .i64 done_6)) none none) (.one (.at .sl)) (fun (x1 : Sl) w2 =>
  Nx Tryd.prog (do let d ← Deferred.ofValue call_1 #[(.slice x1.base x1.len x1.cap)]; invoke d.target d.args) (.tup [.at (.int .i64), .at .any]) (fun x3 w4 =>
  Cd (decide (x3.1 < 0)) (pipes_through.j2 R k1 p_0 call_1 done_6 idle_7 x3.1 x3.2.1 true w4) (pipes_through.j2 R k1 p_0 call_1 done_6 idle_7 x3.1 x3.2.1 (decide (x3.1 > (IntKind.wrap .i64 (((p_0.len : Nat) : Int) - done_6)))) w4)) w2) w) (pipes_through.j1 R done_6 w)
def pipes_through.l1 (R : Ending → World → Prop) : (Sl × Value × Int × Int × Unit) → World → Prop := loopW (fun k1 s w => pipes_through.b1 R k1 s.1 s.2.1 s.2.2.1 s.2.2.2.1 w)
def pipes_through.M (R : Ending → World → Prop) (p_0 : Sl) (call_1 : Value) (w : World) : Prop :=
  pipes_through.l1 R (p_0, call_1, 0, 0, ()) w
noncomputable def pipes_through.ann (R : Ending → World → Prop) : Ann :=
  .seq (.reg (.op 0 .now (.op 1 .now (.done)))) (.seq (.reg (.op 0 .now (.op 1 .now (.done)))) (.join [(6, .at (.int .i64))] (fun s w => pipes_through.j1 R s.1 w) (.block (.loop [(0, .at .sl), (1, .at .any), (6, .at (.int .i64)), (7, .at (.int .i64))] (fun k1 s w => pipes_through.b1 R k1 s.1 s.2.1 s.2.2.1 s.2.2.2.1 w) (fun k1 => .seq (.seq (.reg (.op 0 .now (.op 1 .now (.op 2 .now (.op 3 .now (.done)))))) (.cond (.leaf) (.leaf))) (.block (.seq (.reg (.op 0 .now (.op 1 .now (.op 2 .now (.op 3 (.pu (.one (.at .sl))) (.op 4 (.nx (.tup [.at (.int .i64), .at .any])) (.op 5 .now (.op 6 .now (.op 7 .now (.op 8 .now (.op 9 .now (.done)))))))))))) (.seq (.join [(0, .at .sl), (1, .at .any), (6, .at (.int .i64)), (7, .at (.int .i64)), (8, .at (.int .i64)), (9, .at .any), (31, .at .bool)] (fun s w => pipes_through.j2 R k1 s.1 s.2.1 s.2.2.1 s.2.2.2.1 s.2.2.2.2.1 s.2.2.2.2.2.1 s.2.2.2.2.2.2.1 w) (.reg (.op 0 .now (.op 1 .now (.op 2 .now (.split 2 (.skip 3 (.skip 4 (.skip 5 (.skip 6 (.skip 7 (.skip 8 (.op 9 .now (.done)))))))) (.op 3 .now (.op 4 .now (.op 5 .now (.op 6 .now (.op 7 .now (.op 8 .now (.op 9 .now (.done))))))))))))) (.cond (.seq (.reg (.op 0 .now (.op 1 .now (.op 2 .now (.op 3 .now (.done)))))) (.leaf)) (.leaf))) (.seq (.reg (.op 0 .now (.op 1 .now (.op 2 .now (.op 3 .now (.done)))))) (.seq (.seq (.reg (.op 0 .now (.op 1 .now (.op 2 .now (.op 3 .now (.done)))))) (.cond (.leaf) (.leaf))) (.seq (.seq (.reg (.op 0 .now (.op 1 (.pu (.one (.at .bool))) (.done)))) (.cond (.seq (.reg (.op 0 .now (.op 1 .now (.op 2 .now (.op 3 .now (.done)))))) (.leaf)) (.leaf))) (.seq (.reg (.op 0 .now (.op 1 .now (.op 2 .now (.done))))) (.join [(0, .at .sl), (1, .at .any), (6, .at (.int .i64)), (7, .at (.int .i64))] (fun s w => pipes_through.j3 R k1 s.1 s.2.1 s.2.2.1 s.2.2.2.1 w) (.seq (.reg (.op 0 .now (.op 1 .now (.done)))) (.cond (.reg (.op 0 .now (.done))) (.leaf))) (.seq (.reg (.op 0 .now (.op 1 .now (.done)))) (.cond (.seq (.reg (.op 0 .now (.op 1 .now (.op 2 .now (.op 3 .now (.done)))))) (.leaf)) (.leaf)))))))))))))) (.seq (.reg (.op 0 .now (.op 1 .now (.op 2 .now (.done))))) (.leaf))))
theorem pipes_through.run (R : Ending → World → Prop) (p_0 : Sl) (call_1 : Value) (w : World) (h : pipes_through.M R p_0 call_1 w) : Calls Tryd.prog 66 #[(.slice p_0.base p_0.len p_0.cap), call_1] w R := by
  refine calls_of_lift mix_eqb Tryd.func66 (c := pipes_through.body) (by kernel_rfl) [.at (.int .i64), .at .any] (pipes_through.ann R) 54 Tryd.ntmps66 [.tmp 4, .tmp 5] (by kernel_rfl) (Nat.le_of_ble_eq_true (by kernel_rfl)) ?_ ?_
  · exact ⟨trivial, ⟨trivial, ⟨fun s w h => Eq.mp (by kernel_rfl) h, (fun k1 => ⟨fun s w h => Eq.mp (by kernel_rfl) h, ⟨⟨trivial, ⟨trivial, trivial⟩⟩, ⟨trivial, ⟨⟨fun s w h => Eq.mp (by kernel_rfl) h, trivial, ⟨⟨trivial, trivial⟩, trivial⟩⟩, ⟨trivial, ⟨⟨trivial, ⟨trivial, trivial⟩⟩, ⟨⟨trivial, ⟨⟨trivial, trivial⟩, trivial⟩⟩, ⟨trivial, ⟨fun s w h => Eq.mp (by kernel_rfl) h, ⟨trivial, ⟨trivial, trivial⟩⟩, ⟨trivial, ⟨⟨trivial, trivial⟩, trivial⟩⟩⟩⟩⟩⟩⟩⟩⟩⟩⟩), ⟨trivial, trivial⟩⟩⟩⟩
  · exact Eq.mp (show pipes_through.M R p_0 call_1 w = _ by kernel_rfl) h

noncomputable def pipes_Source_Read.body : Code := (Tryd.f94.body).getD .skip
def pipes_Source_Read.j4 (R : Ending → World → Prop)  (s_0 : (Option Addr)) (p_1 : Sl) (n_6 : Int) (w : World) : Prop :=
  Pu Tryd.prog (nilCk s_0) (.one (.at .addr)) (fun (x17 : Addr) w18 =>
  Rd Tryd.prog (Instr.loadAt 3 (.pointer (some (Addr.add x17 5)))) (.one (.at (.int .i64))) (fun (x19 : Int) w20 =>
  Pu Tryd.prog (nilCk s_0) (.one (.at .addr)) (fun (x21 : Addr) w22 =>
  Wu Tryd.prog (Instr.storeAt 3 (.pointer (some (Addr.add x21 5))) (.int .i64 (IntKind.wrap .i64 (x19 + 1)))) (fun w23 =>
  Cd (decide (n_6 ≤ 0)) (R (.returned (.tuple #[(.int .i64 0), .nilIface])) w23) (Held w23.drew (fun S24 => Pu Tryd.prog (nilCk s_0) (.one (.at .addr)) (fun (x25 : Addr) w26 =>
  RdS Tryd.prog S24 (Instr.loadAt 67 (.pointer (some x25))) (.one (.at .sl)) (fun (x27 : Sl) w28 =>
  Pu Tryd.prog (nilCk s_0) (.one (.at .addr)) (fun (x29 : Addr) w30 =>
  RdS Tryd.prog S24 (Instr.loadAt 3 (.pointer (some (Addr.add x29 4)))) (.one (.at (.int .i64))) (fun (x31 : Int) w32 =>
  Pu Tryd.prog (nilCk s_0) (.one (.at .addr)) (fun (x33 : Addr) w34 =>
  RdS Tryd.prog S24 (Instr.loadAt 3 (.pointer (some (Addr.add x33 4)))) (.one (.at (.int .i64))) (fun (x35 : Int) w36 =>
  Pu Tryd.prog (Instr.sliceAt 67 (.slice x27.base x27.len x27.cap) (some (.int .i64 x31)) (some (.int .i64 (IntKind.wrap .i64 (x35 + n_6)))) none) (.one (.at .sl)) (fun (x37 : Sl) w38 =>
  Wr Tryd.prog (Builtin.copy_ #[67, 67] 3 #[(.slice p_1.base p_1.len p_1.cap), (.slice x37.base x37.len x37.cap)]) (.one (.at (.int .i64))) (fun (x39 : Int) w40 =>
  S24 w40 ∧ (Pu Tryd.prog (nilCk s_0) (.one (.at .addr)) (fun (x41 : Addr) w42 =>
  Rd Tryd.prog (Instr.loadAt 3 (.pointer (some (Addr.add x41 4)))) (.one (.at (.int .i64))) (fun (x43 : Int) w44 =>
  Pu Tryd.prog (nilCk s_0) (.one (.at .addr)) (fun (x45 : Addr) w46 =>
  Wu Tryd.prog (Instr.storeAt 3 (.pointer (some (Addr.add x45 4))) (.int .i64 (IntKind.wrap .i64 (x43 + n_6)))) (fun w47 =>
  R (.returned (.tuple #[(.int .i64 n_6), .nilIface])) w47) w46) w44) w42) w40)) w38) w36) w34) w32) w30) w28) w26) w23.drew))) w22) w20) w18) w
def pipes_Source_Read.j3 (R : Ending → World → Prop)  (s_0 : (Option Addr)) (p_1 : Sl) (n_6 : Int) (w : World) : Prop :=
  Pu Tryd.prog (nilCk s_0) (.one (.at .addr)) (fun (x48 : Addr) w49 =>
  Rd Tryd.prog (Instr.loadAt 24 (.pointer (some (Addr.add x48 1)))) (.one (.at .sl)) (fun (x50 : Sl) w51 =>
  Cd (decide (((x50.len : Nat) : Int) > 0)) (Pu Tryd.prog (nilCk s_0) (.one (.at .addr)) (fun (x52 : Addr) w53 =>
  RdS Tryd.prog (Same w51.drew) (Instr.loadAt 24 (.pointer (some (Addr.add x52 1)))) (.one (.at .sl)) (fun (x54 : Sl) w55 =>
  Pu Tryd.prog (nilCk s_0) (.one (.at .addr)) (fun (x56 : Addr) w57 =>
  RdS Tryd.prog (Same w51.drew) (Instr.loadAt 3 (.pointer (some (Addr.add x56 5)))) (.one (.at (.int .i64))) (fun (x58 : Int) w59 =>
  Pu Tryd.prog (nilCk s_0) (.one (.at .addr)) (fun (x60 : Addr) w61 =>
  RdS Tryd.prog (Same w51.drew) (Instr.loadAt 24 (.pointer (some (Addr.add x60 1)))) (.one (.at .sl)) (fun (x62 : Sl) w63 =>
  Pu Tryd.prog (do eqGuard .rem 3 (.tmp 92) (.tmp 97) (.int .i64 x58) (.int .i64 ((x62.len : Nat) : Int)); binOp .rem 3 (.int .i64 x58) (.int .i64 ((x62.len : Nat) : Int))) (.one (.at (.int .i64))) (fun (x64 : Int) w65 =>
  Pu Tryd.prog (Instr.indexAt 24 (.slice x54.base x54.len x54.cap) (.int .i64 x64)) (.one (.at .addr)) (fun (x66 : Addr) w67 =>
  RdS Tryd.prog (Same w51.drew) (Instr.loadAt 3 (.pointer (some x66))) (.one (.at (.int .i64))) (fun (x68 : Int) w69 =>
  pipes_Source_Read.j4 R s_0 p_1 (minI n_6 x68) w69) w67) w65) w63) w61) w59) w57) w55) w53) w51.drew) (pipes_Source_Read.j4 R s_0 p_1 n_6 w51)) w49) w
def pipes_Source_Read.j2 (R : Ending → World → Prop)  (s_0 : (Option Addr)) (p_1 : Sl) (n_6 : Int) (w : World) : Prop :=
  Pu Tryd.prog (nilCk s_0) (.one (.at .addr)) (fun (x70 : Addr) w71 =>
  Rd Tryd.prog (Instr.loadAt 3 (.pointer (some (Addr.add x70 2)))) (.one (.at (.int .i64))) (fun (x72 : Int) w73 =>
  Cd (decide (x72 ≥ 0)) (Pu Tryd.prog (nilCk s_0) (.one (.at .addr)) (fun (x74 : Addr) w75 =>
  RdS Tryd.prog (Same w73.drew) (Instr.loadAt 3 (.pointer (some (Addr.add x74 2)))) (.one (.at (.int .i64))) (fun (x76 : Int) w77 =>
  Pu Tryd.prog (nilCk s_0) (.one (.at .addr)) (fun (x78 : Addr) w79 =>
  RdS Tryd.prog (Same w73.drew) (Instr.loadAt 3 (.pointer (some (Addr.add x78 4)))) (.one (.at (.int .i64))) (fun (x80 : Int) w81 =>
  pipes_Source_Read.j3 R s_0 p_1 (minI n_6 (IntKind.wrap .i64 (x76 - x80))) w81) w79) w77) w75) w73.drew) (pipes_Source_Read.j3 R s_0 p_1 n_6 w73)) w71) w
def pipes_Source_Read.j1 (R : Ending → World → Prop)  (s_0 : (Option Addr)) (p_1 : Sl) (t15 : Bool) (w : World) : Prop :=
  Cd t15 (Pu Tryd.prog (nilCk s_0) (.one (.at .addr)) (fun (x3 : Addr) w4 =>
  RdS Tryd.prog (Same w.drew) (Instr.loadAt 88 (.pointer (some (Addr.add x3 3)))) (.one (.at .ptr)) (fun (x5 : (Option Addr)) w6 =>
  R (.returned (.tuple #[(.int .i64 0), (.iface 88 (.pointer x5))])) w6) w4) w.drew) (Pu Tryd.prog (nilCk s_0) (.one (.at .addr)) (fun (x7 : Addr) w8 =>
  RdS Tryd.prog (Same w.drew) (Instr.loadAt 3 (.pointer (some (Addr.add x7 4)))) (.one (.at (.int .i64))) (fun (x9 : Int) w10 =>
  Pu Tryd.prog (nilCk s_0) (.one (.at .addr)) (fun (x11 : Addr) w12 =>
  RdS Tryd.prog (Same w.drew) (Instr.loadAt 67 (.pointer (some x11))) (.one (.at .sl)) (fun (x13 : Sl) w14 =>
  Cd (x9 == ((x13.len : Nat) : Int)) (RdS Tryd.prog (Same w14.drew) (Instr.loadAt 50 (.pointer (some ⟨0, 0, none⟩))) (.one (.at .any)) (fun x15 w16 =>
  R (.returned (.tuple #[(.int .i64 0), x15])) w16) w14.drew) (Pu Tryd.prog (nilCk s_0) (.one (.at .addr)) (fun (x82 : Addr) w83 =>
  RdS Tryd.prog (Same w14.drew) (Instr.loadAt 67 (.pointer (some x82))) (.one (.at .sl)) (fun (x84 : Sl) w85 =>
  Pu Tryd.prog (nilCk s_0) (.one (.at .addr)) (fun (x86 : Addr) w87 =>
  RdS Tryd.prog (Same w14.drew) (Instr.loadAt 3 (.pointer (some (Addr.add x86 4)))) (.one (.at (.int .i64))) (fun (x88 : Int) w89 =>
  pipes_Source_Read.j2 R s_0 p_1 (minI ((p_1.len : Nat) : Int) (IntKind.wrap .i64 (((x84.len : Nat) : Int) - x88))) w89) w87) w85) w83) w14.drew)) w12) w10) w8) w.drew)
def pipes_Source_Read.M (R : Ending → World → Prop) (s_0 : (Option Addr)) (p_1 : Sl) (w : World) : Prop :=
  Pu Tryd.prog (do eqGuard .eql 52 (.tmp 8) (.const (.pointer none)) (.pointer s_0) (.pointer none); binOp .eql 52 (.pointer s_0) (.pointer none)) (.one (.at .bool)) (fun (x1 : Bool) w2 =>
  Cd x1 (R (.returned (.tuple #[(.int .i64 0), (.iface 74 (.int .i64 1))])) w2) (Cd (((p_1.len : Nat) : Int) == 0) (R (.returned (.tuple #[(.int .i64 0), .nilIface])) w2) (Pu Tryd.prog (nilCk s_0) (.one (.at .addr)) (fun (x90 : Addr) w91 =>
  RdS Tryd.prog (Same w2.drew) (Instr.loadAt 3 (.pointer (some (Addr.add x90 2)))) (.one (.at (.int .i64))) (fun (x92 : Int) w93 =>
  Cd (decide (x92 ≥ 0)) (Pu Tryd.prog (nilCk s_0) (.one (.at .addr)) (fun (x94 : Addr) w95 =>
  RdS Tryd.prog (Same w2.drew) (Instr.loadAt 3 (.pointer (some (Addr.add x94 4)))) (.one (.at (.int .i64))) (fun (x96 : Int) w97 =>
  Pu Tryd.prog (nilCk s_0) (.one (.at .addr)) (fun (x98 : Addr) w99 =>
  RdS Tryd.prog (Same w2.drew) (Instr.loadAt 3 (.pointer (some (Addr.add x98 2)))) (.one (.at (.int .i64))) (fun (x100 : Int) w101 =>
  pipes_Source_Read.j1 R s_0 p_1 (x96 == x100) w101) w99) w97) w95) w93) (pipes_Source_Read.j1 R s_0 p_1 false w93)) w91) w2.drew))) w
noncomputable def pipes_Source_Read.ann (R : Ending → World → Prop) : Ann :=
  .seq (.reg (.op 0 .now (.op 1 .now (.done)))) (.seq (.block (.seq (.reg (.op 0 .now (.op 1 (.pu (.one (.at .bool))) (.op 2 .now (.done))))) (.cond (.seq (.reg (.op 0 .now (.op 1 .now (.op 2 .now (.done))))) (.leaf)) (.seq (.reg (.op 0 .now (.op 1 .now (.op 2 .now (.op 3 .now (.done)))))) (.cond (.seq (.reg (.op 0 .now (.op 1 .now (.done)))) (.leaf)) (.join [(0, .at .ptr), (1, .at .sl), (15, .at .bool)] (fun s w => pipes_Source_Read.j1 R s.1 s.2.1 s.2.2.1 w) (.regQ (.op 0 .now (.op 1 (.pu (.one (.at .addr))) (.op 2 .now (.op 3 (.rd (.one (.at (.int .i64)))) (.op 4 .now (.op 5 .now (.split 5 (.op 6 .now (.op 7 (.pu (.one (.at .addr))) (.op 8 .now (.op 9 (.rd (.one (.at (.int .i64)))) (.op 10 .now (.op 11 (.pu (.one (.at .addr))) (.op 12 .now (.op 13 (.rd (.one (.at (.int .i64)))) (.op 14 .now (.op 15 .now (.op 16 .now (.done)))))))))))) (.skip 6 (.skip 7 (.skip 8 (.skip 9 (.skip 10 (.skip 11 (.skip 12 (.skip 13 (.skip 14 (.op 15 .now (.op 16 .now (.done)))))))))))))))))))) (.cond (.seq (.regQ (.op 0 .now (.op 1 (.pu (.one (.at .addr))) (.op 2 .now (.op 3 (.rd (.one (.at .ptr))) (.op 4 .now (.op 5 .now (.op 6 .now (.done))))))))) (.leaf)) (.seq (.regQ (.op 0 .now (.op 1 (.pu (.one (.at .addr))) (.op 2 .now (.op 3 (.rd (.one (.at (.int .i64)))) (.op 4 .now (.op 5 (.pu (.one (.at .addr))) (.op 6 .now (.op 7 (.rd (.one (.at .sl))) (.op 8 .now (.op 9 .now (.op 10 .now (.done))))))))))))) (.cond (.seq (.regQ (.op 0 (.rd (.one (.at .any))) (.op 1 .now (.op 2 .now (.done))))) (.leaf)) (.leaf)))))))))) (.join [(0, .at .ptr), (1, .at .sl), (6, .at (.int .i64))] (fun s w => pipes_Source_Read.j2 R s.1 s.2.1 s.2.2.1 w) (.regQ (.op 0 .now (.op 1 .now (.op 2 .now (.op 3 (.pu (.one (.at .addr))) (.op 4 .now (.op 5 (.rd (.one (.at .sl))) (.op 6 .now (.op 7 .now (.op 8 (.pu (.one (.at .addr))) (.op 9 .now (.op 10 (.rd (.one (.at (.int .i64)))) (.op 11 .now (.op 12 .now (.op 13 .now (.done)))))))))))))))) (.join [(0, .at .ptr), (1, .at .sl), (6, .at (.int .i64))] (fun s w => pipes_Source_Read.j3 R s.1 s.2.1 s.2.2.1 w) (.seq (.reg (.op 0 .now (.op 1 (.pu (.one (.at .addr))) (.op 2 .now (.op 3 (.rd (.one (.at (.int .i64)))) (.op 4 .now (.done))))))) (.cond (.regQ (.op 0 .now (.op 1 .now (.op 2 (.pu (.one (.at .addr))) (.op 3 .now (.op 4 (.rd (.one (.at (.int .i64)))) (.op 5 .now (.op 6 (.pu (.one (.at .addr))) (.op 7 .now (.op 8 (.rd (.one (.at (.int .i64)))) (.op 9 .now (.op 10 .now (.op 11 .now (.done)))))))))))))) (.leaf))) (.join [(0, .at .ptr), (1, .at .sl), (6, .at (.int .i64))] (fun s w => pipes_Source_Read.j4 R s.1 s.2.1 s.2.2.1 w) (.seq (.reg (.op 0 .now (.op 1 (.pu (.one (.at .addr))) (.op 2 .now (.op 3 (.rd (.one (.at .sl))) (.op 4 .now (.op 5 .now (.done)))))))) (.cond (.regQ (.op 0 .now (.op 1 .now (.op 2 (.pu (.one (.at .addr))) (.op 3 .now (.op 4 (.rd (.one (.at .sl))) (.op 5 .now (.op 6 (.pu (.one (.at .addr))) (.op 7 .now (.op 8 (.rd (.one (.at (.int .i64)))) (.op 9 .now (.op 10 (.pu (.one (.at .addr))) (.op 11 .now (.op 12 (.rd (.one (.at .sl))) (.op 13 .now (.op 14 (.pu (.one (.at (.int .i64)))) (.op 15 (.pu (.one (.at .addr))) (.op 16 (.rd (.one (.at (.int .i64)))) (.op 17 .now (.op 18 .now (.done))))))))))))))))))))) (.leaf))) (.seq (.reg (.op 0 .now (.op 1 (.pu (.one (.at .addr))) (.op 2 .now (.op 3 (.rd (.one (.at (.int .i64)))) (.op 4 .now (.op 5 (.pu (.one (.at .addr))) (.op 6 .now (.op 7 .wu (.done)))))))))) (.seq (.seq (.reg (.op 0 .now (.op 1 .now (.done)))) (.cond (.seq (.reg (.op 0 .now (.op 1 .now (.done)))) (.leaf)) (.leaf))) (.seq (.regD (.op 0 .now (.op 1 .now (.op 2 (.pu (.one (.at .addr))) (.op 3 .now (.op 4 (.rd (.one (.at .sl))) (.op 5 .now (.op 6 (.pu (.one (.at .addr))) (.op 7 .now (.op 8 (.rd (.one (.at (.int .i64)))) (.op 9 .now (.op 10 (.pu (.one (.at .addr))) (.op 11 .now (.op 12 (.rd (.one (.at (.int .i64)))) (.op 13 .now (.op 14 .now (.op 15 (.pu (.one (.at .sl))) (.op 16 (.wr (.one (.at (.int .i64)))) (.done))))))))))))))))))) (.seq (.reg (.op 0 .now (.op 1 (.pu (.one (.at .addr))) (.op 2 .now (.op 3 (.rd (.one (.at (.int .i64)))) (.op 4 .now (.op 5 .now (.op 6 (.pu (.one (.at .addr))) (.op 7 .now (.op 8 .wu (.done))))))))))) (.seq (.reg (.op 0 .now (.op 1 .now (.op 2 .now (.done))))) (.leaf))))))))))
theorem pipes_Source_Read.run (R : Ending → World → Prop) (s_0 : (Option Addr)) (p_1 : Sl) (w : World) (h : pipes_Source_Read.M R s_0 p_1 w) : Calls Tryd.prog 94 #[(.pointer s_0), (.slice p_1.base p_1.len p_1.cap)] w R := by
  refine calls_of_lift mix_eqb Tryd.func94 (c := pipes_Source_Read.body) (by kernel_rfl) [.at (.int .i64), .at .any] (pipes_Source_Read.ann R) 137 Tryd.ntmps94 [.tmp 4, .tmp 5] (by kernel_rfl) (Nat.le_of_ble_eq_true (by kernel_rfl)) ?_ ?_
  · exact ⟨trivial, ⟨⟨trivial, ⟨⟨trivial, trivial⟩, ⟨trivial, ⟨⟨trivial, trivial⟩, ⟨fun s w h => Eq.mp (by kernel_rfl) h, (show Region.noSelect _ = true by kernel_rfl), ⟨⟨(show Region.noSelect _ = true by kernel_rfl), trivial⟩, ⟨(show Region.noSelect _ = true by kernel_rfl), ⟨⟨(show Region.noSelect _ = true by kernel_rfl), trivial⟩, trivial⟩⟩⟩⟩⟩⟩⟩⟩, ⟨fun s w h => Eq.mp (by kernel_rfl) h, (show Region.noSelect _ = true by kernel_rfl), ⟨fun s w h => Eq.mp (by kernel_rfl) h, ⟨trivial, ⟨(show Region.noSelect _ = true by kernel_rfl), trivial⟩⟩, ⟨fun s w h => Eq.mp (by kernel_rfl) h, ⟨trivial, ⟨(show Region.noSelect _ = true by kernel_rfl), trivial⟩⟩, ⟨trivial, ⟨⟨trivial, ⟨⟨trivial, trivial⟩, trivial⟩⟩, ⟨(show Region.noSelect _ = true by kernel_rfl), ⟨trivial, ⟨trivial, trivial⟩⟩⟩⟩⟩⟩⟩⟩⟩⟩
  · exact Eq.mp (show pipes_Source_Read.M R s_0 p_1 w = _ by kernel_rfl) h

noncomputable def pipes_Sink_Write.body : Code := (Tryd.f95.body).getD .skip
def pipes_Sink_Write.j3 (R : Ending → World → Prop)  (s_0 : (Option Addr)) (n_6 : Int) (w : World) : Prop :=
  Pu Tryd.prog (nilCk s_0) (.one (.at .addr)) (fun (x3 : Addr) w4 =>
  RdS Tryd.prog (Same w.drew) (Instr.loadAt 88 (.pointer (some (Addr.add x3 2)))) (.one (.at .ptr)) (fun (x5 : (Option Addr)) w6 =>
  R (.returned (.tuple #[(.int .i64 n_6), (.iface 88 (.pointer x5))])) w6) w4) w.drew
def pipes_Sink_Write.j2 (R : Ending → World → Prop)  (s_0 : (Option Addr)) (p_1 : Sl) (n_6 : Int) (w : World) : Prop :=
  Held w.drew (fun S7 => Pu Tryd.prog (nilCk s_0) (.one (.at .addr)) (fun (x8 : Addr) w9 =>
  Pu Tryd.prog (Instr.sliceAt 67 (.slice p_1.base p_1.len p_1.cap) none (some (.int .i64 n_6)) none) (.one (.at .sl)) (fun (x10 : Sl) w11 =>
  Wr Tryd.prog (Instr.loadAt 67 (.pointer (some x8))) (.one (.at .sl)) (fun (x12 : Sl) w13 =>
  S7 w13 ∧ (Wr Tryd.prog (Builtin.append_ #[67, 67] 67 #[(.slice x12.base x12.len x12.cap), (.slice x10.base x10.len x10.cap)]) (.one (.at .sl)) (fun (x14 : Sl) w15 =>
  S7 w15 ∧ (Pu Tryd.prog (nilCk s_0) (.one (.at .addr)) (fun (x16 : Addr) w17 =>
  Wu Tryd.prog (Instr.storeAt 67 (.pointer (some x16)) (.slice x14.base x14.len x14.cap)) (fun w18 =>
  S7 w18 ∧ (pipes_Sink_Write.j3 R s_0 n_6 w18)) w17) w15)) w13)) w11) w9) w.drew)
def pipes_Sink_Write.j1 (R : Ending → World → Prop)  (s_0 : (Option Addr)) (p_1 : Sl) (t29 : Bool) (w : World) : Prop :=
  Cd t29 (Pu Tryd.prog (nilCk s_0) (.one (.at .addr)) (fun (x19 : Addr) w20 =>
  RdS Tryd.prog (Same w.drew) (Instr.loadAt 3 (.pointer (some (Addr.add x19 1)))) (.one (.at (.int .i64))) (fun (x21 : Int) w22 =>
  Pu Tryd.prog (nilCk s_0) (.one (.at .addr)) (fun (x23 : Addr) w24 =>
  RdS Tryd.prog (Same w.drew) (Instr.loadAt 67 (.pointer (some x23))) (.one (.at .sl)) (fun (x25 : Sl) w26 =>
  pipes_Sink_Write.j2 R s_0 p_1 (IntKind.wrap .i64 (x21 - ((x25.len : Nat) : Int))) w26) w24) w22) w20) w.drew) (Pu Tryd.prog (nilCk s_0) (.one (.at .addr)) (fun (x27 : Addr) w28 =>
  Rd Tryd.prog (Instr.loadAt 67 (.pointer (some x27))) (.one (.at .sl)) (fun (x29 : Sl) w30 =>
  Wr Tryd.prog (Builtin.append_ #[67, 67] 67 #[(.slice x29.base x29.len x29.cap), (.slice p_1.base p_1.len p_1.cap)]) (.one (.at .sl)) (fun (x31 : Sl) w32 =>
  Pu Tryd.prog (nilCk s_0) (.one (.at .addr)) (fun (x33 : Addr) w34 =>
  Wu Tryd.prog (Instr.storeAt 67 (.pointer (some x33)) (.slice x31.base x31.len x31.cap)) (fun w35 =>
  R (.returned (.tuple #[(.int .i64 ((p_1.len : Nat) : Int)), .nilIface])) w35) w34) w32) w30) w28) w)
def pipes_Sink_Write.M (R : Ending → World → Prop) (s_0 : (Option Addr)) (p_1 : Sl) (w : World) : Prop :=
  Pu Tryd.prog (do eqGuard .eql 64 (.tmp 7) (.const (.pointer none)) (.pointer s_0) (.pointer none); binOp .eql 64 (.pointer s_0) (.pointer none)) (.one (.at .bool)) (fun (x1 : Bool) w2 =>
  Cd x1 (R (.returned (.tuple #[(.int .i64 0), (.iface 74 (.int .i64 1))])) w2) (Pu Tryd.prog (nilCk s_0) (.one (.at .addr)) (fun (x36 : Addr) w37 =>
  RdS Tryd.prog (Same w2.drew) (Instr.loadAt 3 (.pointer (some (Addr.add x36 1)))) (.one (.at (.int .i64))) (fun (x38 : Int) w39 =>
  Cd (decide (x38 ≥ 0)) (Pu Tryd.prog (nilCk s_0) (.one (.at .addr)) (fun (x40 : Addr) w41 =>
  RdS Tryd.prog (Same w2.drew) (Instr.loadAt 3 (.pointer (some (Addr.add x40 1)))) (.one (.at (.int .i64))) (fun (x42 : Int) w43 =>
  Pu Tryd.prog (nilCk s_0) (.one (.at .addr)) (fun (x44 : Addr) w45 =>
  RdS Tryd.prog (Same w2.drew) (Instr.loadAt 67 (.pointer (some x44))) (.one (.at .sl)) (fun (x46 : Sl) w47 =>
  pipes_Sink_Write.j1 R s_0 p_1 (decide ((IntKind.wrap .i64 (x42 - ((x46.len : Nat) : Int))) < ((p_1.len : Nat) : Int))) w47) w45) w43) w41) w39) (pipes_Sink_Write.j1 R s_0 p_1 false w39)) w37) w2.drew)) w
noncomputable def pipes_Sink_Write.ann (R : Ending → World → Prop) : Ann :=
  .seq (.reg (.op 0 .now (.op 1 .now (.done)))) (.seq (.seq (.reg (.op 0 .now (.op 1 (.pu (.one (.at .bool))) (.done)))) (.cond (.seq (.reg (.op 0 .now (.op 1 .now (.op 2 .now (.done))))) (.leaf)) (.leaf))) (.seq (.join [(0, .at .ptr), (1, .at .sl), (29, .at .bool)] (fun s w => pipes_Sink_Write.j1 R s.1 s.2.1 s.2.2.1 w) (.regQ (.op 0 .now (.op 1 (.pu (.one (.at .addr))) (.op 2 .now (.op 3 (.rd (.one (.at (.int .i64)))) (.op 4 .now (.op 5 .now (.split 5 (.op 6 .now (.op 7 (.pu (.one (.at .addr))) (.op 8 .now (.op 9 (.rd (.one (.at (.int .i64)))) (.op 10 .now (.op 11 (.pu (.one (.at .addr))) (.op 12 .now (.op 13 (.rd (.one (.at .sl))) (.op 14 .now (.op 15 .now (.op 16 .now (.op 17 .now (.op 18 .now (.op 19 .now (.done))))))))))))))) (.skip 6 (.skip 7 (.skip 8 (.skip 9 (.skip 10 (.skip 11 (.skip 12 (.skip 13 (.skip 14 (.skip 15 (.skip 16 (.skip 17 (.skip 18 (.op 19 .now (.done))))))))))))))))))))))) (.cond (.join [(0, .at .ptr), (1, .at .sl), (6, .at (.int .i64))] (fun s w => pipes_Sink_Write.j2 R s.1 s.2.1 s.2.2.1 w) (.regQ (.op 0 .now (.op 1 (.pu (.one (.at .addr))) (.op 2 .now (.op 3 (.rd (.one (.at (.int .i64)))) (.op 4 .now (.op 5 (.pu (.one (.at .addr))) (.op 6 .now (.op 7 (.rd (.one (.at .sl))) (.op 8 .now (.op 9 .now (.op 10 .now (.done))))))))))))) (.join [(0, .at .ptr), (6, .at (.int .i64))] (fun s w => pipes_Sink_Write.j3 R s.1 s.2.1 w) (.regD (.op 0 .now (.op 1 .now (.op 2 (.pu (.one (.at .addr))) (.op 3 .now (.op 5 .now (.op 6 .now (.op 7 (.pu (.one (.at .sl))) (.op 4 (.wr (.one (.at .sl))) (.op 8 (.wr (.one (.at .sl))) (.op 9 (.pu (.one (.at .addr))) (.op 10 .now (.op 11 .wu (.done)))))))))))))) (.seq (.regQ (.op 0 .now (.op 1 .now (.op 2 (.pu (.one (.at .addr))) (.op 3 .now (.op 4 (.rd (.one (.at .ptr))) (.op 5 .now (.op 6 .now (.op 7 .now (.done)))))))))) (.leaf)))) (.leaf))) (.seq (.reg (.op 0 .now (.op 1 .now (.op 2 (.pu (.one (.at .addr))) (.op 3 .now (.op 4 (.rd (.one (.at .sl))) (.op 5 .now (.op 6 (.wr (.one (.at .sl))) (.op 7 (.pu (.one (.at .addr))) (.op 8 .now (.op 9 .wu (.done)))))))))))) (.seq (.reg (.op 0 .now (.op 1 .now (.op 2 .now (.op 3 .now (.done)))))) (.leaf)))))
theorem pipes_Sink_Write.run (R : Ending → World → Prop) (s_0 : (Option Addr)) (p_1 : Sl) (w : World) (h : pipes_Sink_Write.M R s_0 p_1 w) : Calls Tryd.prog 95 #[(.pointer s_0), (.slice p_1.base p_1.len p_1.cap)] w R := by
  refine calls_of_lift mix_eqb Tryd.func95 (c := pipes_Sink_Write.body) (by kernel_rfl) [.at (.int .i64), .at .any] (pipes_Sink_Write.ann R) 68 Tryd.ntmps95 [.tmp 4, .tmp 5] (by kernel_rfl) (Nat.le_of_ble_eq_true (by kernel_rfl)) ?_ ?_
  · exact ⟨trivial, ⟨⟨trivial, ⟨⟨trivial, trivial⟩, trivial⟩⟩, ⟨⟨fun s w h => Eq.mp (by kernel_rfl) h, (show Region.noSelect _ = true by kernel_rfl), ⟨⟨fun s w h => Eq.mp (by kernel_rfl) h, (show Region.noSelect _ = true by kernel_rfl), ⟨fun s w h => Eq.mp (by kernel_rfl) h, (show Region.noSelect _ = true by kernel_rfl), ⟨(show Region.noSelect _ = true by kernel_rfl), trivial⟩⟩⟩, trivial⟩⟩, ⟨trivial, ⟨trivial, trivial⟩⟩⟩⟩⟩
  · exact Eq.mp (show pipes_Sink_Write.M R s_0 p_1 w = _ by kernel_rfl) h

end Go.Proofs.YtmmejgneelkhkaaDoor
