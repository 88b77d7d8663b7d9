/- A part of what the last text of this claim leans on. -/
import Derived.Test.YtbiilejgfihohaaGreatGivesF
import Derived.Test.YtbiilejgfihohaaGreatProg
set_option linter.all false
set_option maxHeartbeats 4000000
set_option maxRecDepth 100000
set_option autoImplicit false
namespace Go.Proofs.YtbiilejgfihohaaGreat
open Go Go.Cu
theorem aSZ:Tryz.prog.follows .mixedOrders=true:=by kernel_rfl
noncomputable def culletref02_Mul.body:Code:=(Tryz.f123.body).getD .skip
def culletref02_Mul.j1(R:EPq)(k1:(Int×Int×Int×Int×Unit)→WPq)(v0:Int)(v1:Int)(v5:Int)(v6:Int)(w:World):Prop:=
 k1 (v0,v1,v5,(IntKind.wrap .i64 (v6+1)),()) w
def culletref02_Mul.j2(R:EPq)(k2:(Int×Int×Unit)→WPq)(v5:Int)(v7:Int)(w:World):Prop:=
 k2 (v5,(IntKind.wrap .i64 (v7-1)),()) w
def culletref02_Mul.b2(R:EPq)(k2:(Int×Int×Unit)→WPq)(v5:Int)(v7:Int)(w:World):Prop:=
 Cd (decide (v7≥8)) (Pu Tryz.prog (do eqGuard .shr 3 (.tmp 29) (.tmp 31) (.int .i64 v5) (.int .u64 (IntKind.wrap .u64 v7));binOp .shr 3 (.int .i64 v5) (.int .u64 (IntKind.wrap .u64 v7))) (.one (.at (.int .i64))) (fun(x5:Int) w6=>
 Cd ((bAnd .i64 x5 1)==1) (Pu Tryz.prog (do eqGuard .shl 3 (.const (.int .i64 285)) (.tmp 38) (.int .i64 285) (.int .u64 (IntKind.wrap .u64 (IntKind.wrap .i64 (v7-8))));binOp .shl 3 (.int .i64 285) (.int .u64 (IntKind.wrap .u64 (IntKind.wrap .i64 (v7-8))))) (.one (.at (.int .i64))) (fun(x7:Int) w8=>
 culletref02_Mul.j2 R k2 (bXor .i64 v5 x7) v7 w8) w6) (culletref02_Mul.j2 R k2 v5 v7 w6)) w) (R (.returned (.int .u8 (IntKind.wrap .u8 v5))) w)
def culletref02_Mul.l2(R:EPq):(Int×Int×Unit)→World→Prop:=arZ (fun k2 s w=>culletref02_Mul.b2 R k2 s.1 s.2.1 w)
def culletref02_Mul.b1(R:EPq)(k1:(Int×Int×Int×Int×Unit)→WPq)(v0:Int)(v1:Int)(v5:Int)(v6:Int)(w:World):Prop:=
 Cd (decide (v6<8)) (Pu Tryz.prog (do eqGuard .shr 5 (.tmp 12) (.tmp 14) (.int .u8 v1) (.int .u64 (IntKind.wrap .u64 v6));binOp .shr 5 (.int .u8 v1) (.int .u64 (IntKind.wrap .u64 v6))) (.one (.at (.int .u8))) (fun(x1:Int) w2=>
 Cd ((bAnd .u8 x1 1)==1) (Pu Tryz.prog (do eqGuard .shl 3 (.tmp 20) (.tmp 22) (.int .i64 (IntKind.wrap .i64 v0)) (.int .u64 (IntKind.wrap .u64 v6));binOp .shl 3 (.int .i64 (IntKind.wrap .i64 v0)) (.int .u64 (IntKind.wrap .u64 v6))) (.one (.at (.int .i64))) (fun(x3:Int) w4=>
 culletref02_Mul.j1 R k1 v0 v1 (bXor .i64 v5 x3) v6 w4) w2) (culletref02_Mul.j1 R k1 v0 v1 v5 v6 w2)) w) (culletref02_Mul.l2 R (v5,14,()) w)
def culletref02_Mul.l1(R:EPq):(Int×Int×Int×Int×Unit)→World→Prop:=arZ (fun k1 s w=>culletref02_Mul.b1 R k1 s.1 s.2.1 s.2.2.1 s.2.2.2.1 w)
def culletref02_Mul.M(R:EPq)(v0:Int)(v1:Int)(w:World):Prop:=
 culletref02_Mul.l1 R (v0,v1,0,0,()) w
noncomputable def culletref02_Mul.ann(R:EPq):Ann:=
 .seq (.reg qN1) (.seq (.reg qN1) (.seq (.seq (.reg qN1) (.block (.loop [(0,qcB),(1,qcB),(5,qcI),(6,qcI)] (fun k1 s w=>culletref02_Mul.b1 R k1 s.1 s.2.1 s.2.2.1 s.2.2.2.1 w) (fun k1=>.seq (.seq (.reg qN2) (.cond (.leaf) (.leaf))) (.join [(0,qcB),(1,qcB),(5,qcI),(6,qcI)] (fun s w=>culletref02_Mul.j1 R k1 s.1 s.2.1 s.2.2.1 s.2.2.2.1 w) (.block (.seq (.reg (.op 0 .now (.op 1 .now (.op 2 .now (.op 3 (.pu (.one qcB)) (.op 4 .now (.op 5 .now (.done)))))))) (.cond (.reg (.op 0 .now (.op 1 .now (.op 2 .now (.op 3 .now (.op 4 .now (.op 5 (.pu (.one qcI)) (.op 6 .now (.op 7 .now (.done)))))))))) (.leaf)))) (.reg qN3)))))) (.seq (.seq (.reg qN1) (.block (.loop [(5,qcI),(7,qcI)] (fun k2 s w=>culletref02_Mul.b2 R k2 s.1 s.2.1 w) (fun k2=>.seq (.seq (.reg qN2) (.cond (.leaf) (.leaf))) (.join [(5,qcI),(7,qcI)] (fun s w=>culletref02_Mul.j2 R k2 s.1 s.2.1 w) (.block (.seq (.reg (.op 0 .now (.op 1 .now (.op 2 .now (.op 3 (.pu (.one qcI)) (.op 4 .now (.op 5 .now (.done)))))))) (.cond (.reg (.op 0 .now (.op 1 .now (.op 2 .now (.op 3 .now (.op 4 (.pu (.one qcI)) (.op 5 .now (.op 6 .now (.done))))))))) (.leaf)))) (.reg qN3)))))) (.seq (.reg qN3) (.leaf)))))
theorem culletref02_Mul.run(R:EPq)(v0:Int)(v1:Int)(w:World)(h:culletref02_Mul.M R v0 v1 w):Calls Tryz.prog 123 #[(.int .u8 v0),(.int .u8 v1)] w R:=by
 refine aaZ aSZ Tryz.func123 (c:=culletref02_Mul.body) (by kernel_rfl) [.at (.int .u8)] (culletref02_Mul.ann R) 43 Tryz.ntmps123 [.tmp 4] (by kernel_rfl) (Nat.le_of_ble_eq_true (by kernel_rfl)) ?_ ?_
 ·exact⟨tv,⟨tv,⟨⟨tv,(fun k1=>⟨fun s w=>mq,⟨⟨tv,⟨tv,tv⟩⟩,⟨fun s w=>mq,⟨tv,⟨tv,tv⟩⟩,tv⟩⟩⟩)⟩,⟨⟨tv,(fun k2=>⟨fun s w=>mq,⟨⟨tv,⟨tv,tv⟩⟩,⟨fun s w=>mq,⟨tv,⟨tv,tv⟩⟩,tv⟩⟩⟩)⟩,⟨tv,tv⟩⟩⟩⟩⟩
 ·exact Eq.mp (show culletref02_Mul.M R v0 v1 w=_ by kernel_rfl) h
noncomputable def culletref02_Inv.body:Code:=(Tryz.f121.body).getD .skip
def culletref02_Inv.b1(R:EPq)(k1:(Int×Int×Int×Unit)→WPq)(v4:Int)(v5:Int)(v6:Int)(w:World):Prop:=
 Cd (decide (v6<7)) (Cl Tryz.prog 123 #[(.int .u8 v5),(.int .u8 v4)] (.one (.at (.int .u8))) (fun(x3:Int) w4=>
 Cl Tryz.prog 123 #[(.int .u8 v4),(.int .u8 v4)] (.one (.at (.int .u8))) (fun(x5:Int) w6=>
 k1 (x5,x3,(IntKind.wrap .i64 (v6+1)),()) w6) w4) w) (R (.returned (.tuple #[(.int .u8 v5),(.int .i64 0)])) w)
def culletref02_Inv.l1(R:EPq):(Int×Int×Int×Unit)→World→Prop:=arZ (fun k1 s w=>culletref02_Inv.b1 R k1 s.1 s.2.1 s.2.2.1 w)
def culletref02_Inv.M(R:EPq)(v0:Int)(w:World):Prop:=
 Cd (v0==0) (R (.returned (.tuple #[(.int .u8 0),(.int .i64 20)])) w) (Cl Tryz.prog 123 #[(.int .u8 v0),(.int .u8 v0)] (.one (.at (.int .u8))) (fun(x1:Int) w2=>
 culletref02_Inv.l1 R (x1,1,0,()) w2) w)
noncomputable def culletref02_Inv.ann(R:EPq):Ann:=
 .seq (.reg qN2) (.seq (.seq (.reg qN2) (.cond (.seq (.reg qN2) (.leaf)) (.leaf))) (.seq (.reg (.op 0 .now (.op 1 .now (.op 2 (.cl (.one qcB)) (.op 3 .now (.done)))))) (.seq (.reg qN1) (.seq (.seq (.reg qN1) (.block (.loop [(4,qcB),(5,qcB),(6,qcI)] (fun k1 s w=>culletref02_Inv.b1 R k1 s.1 s.2.1 s.2.2.1 w) (fun k1=>.seq (.seq (.reg qN2) (.cond (.leaf) (.leaf))) (.seq (.block (.seq (.reg (.op 0 .now (.op 1 .now (.op 2 (.cl (.one qcB)) (.op 3 .now (.done)))))) (.reg (.op 0 .now (.op 1 .now (.op 2 (.cl (.one qcB)) (.op 3 .now (.done)))))))) (.reg qN3)))))) (.seq (.reg qN3) (.leaf))))))
theorem culletref02_Inv.run(R:EPq)(v0:Int)(w:World)(h:culletref02_Inv.M R v0 w):Calls Tryz.prog 121 #[(.int .u8 v0)] w R:=by
 refine aaZ aSZ Tryz.func121 (c:=culletref02_Inv.body) (by kernel_rfl) [.at (.int .u8),.at (.int .i64)] (culletref02_Inv.ann R) 23 Tryz.ntmps121 [.tmp 2,.tmp 3] (by kernel_rfl) (Nat.le_of_ble_eq_true (by kernel_rfl)) ?_ ?_
 ·exact⟨tv,⟨⟨tv,⟨⟨tv,tv⟩,tv⟩⟩,⟨tv,⟨tv,⟨⟨tv,(fun k1=>⟨fun s w=>mq,⟨⟨tv,⟨tv,tv⟩⟩,⟨⟨tv,tv⟩,tv⟩⟩⟩)⟩,⟨tv,tv⟩⟩⟩⟩⟩⟩
 ·exact Eq.mp (show culletref02_Inv.M R v0 w=_ by kernel_rfl) h
noncomputable def culletref02_Div.body:Code:=(Tryz.f124.body).getD .skip
def culletref02_Div.M(R:EPq)(v0:Int)(v1:Int)(w:World):Prop:=
 Cl Tryz.prog 121 #[(.int .u8 v1)] (.tup [.at (.int .u8),.at (.int .i64)]) (fun x1 w2=>
 Cd (x1.2.1 !=0) (R (.returned (.tuple #[(.int .u8 0),(.int .i64 x1.2.1)])) w2) (Cl Tryz.prog 123 #[(.int .u8 v0),(.int .u8 x1.1)] (.one (.at (.int .u8))) (fun(x3:Int) w4=>
 R (.returned (.tuple #[(.int .u8 x3),(.int .i64 0)])) w4) w2)) w
noncomputable def culletref02_Div.ann(R:EPq):Ann:=
 .seq (.reg qN2) (.seq (.reg (.op 0 .now (.op 1 (.cl (.tup [.at (.int .u8),.at (.int .i64)])) (.op 2 .now (.op 3 .now (.op 4 .now (.op 5 .now (.op 6 .now (.done))))))))) (.seq (.seq (.reg qN2) (.cond (.seq (.reg qN3) (.leaf)) (.leaf))) (.seq (.reg (.op 0 .now (.op 1 .now (.op 2 (.cl (.one qcB)) (.op 3 .now (.op 4 .now (.done))))))) (.leaf))))
theorem culletref02_Div.run(R:EPq)(v0:Int)(v1:Int)(w:World)(h:culletref02_Div.M R v0 v1 w):Calls Tryz.prog 124 #[(.int .u8 v0),(.int .u8 v1)] w R:=by
 refine aaZ aSZ Tryz.func124 (c:=culletref02_Div.body) (by kernel_rfl) [.at (.int .u8),.at (.int .i64)] (culletref02_Div.ann R) 19 Tryz.ntmps124 [.tmp 4,.tmp 5] (by kernel_rfl) (Nat.le_of_ble_eq_true (by kernel_rfl)) ?_ ?_
 ·exact⟨tv,⟨tv,⟨⟨tv,⟨⟨tv,tv⟩,tv⟩⟩,⟨tv,tv⟩⟩⟩⟩
 ·exact Eq.mp (show culletref02_Div.M R v0 v1 w=_ by kernel_rfl) h
noncomputable def culletref11_weight.body:Code:=(Tryz.f122.body).getD .skip
def culletref11_weight.j1(R:EPq)(v7:Int)(w:World):Prop:=
 R (.returned (.int .u8 v7)) w
def culletref11_weight.j2(R:EPq)(k1:(Int×Int×Int×Int×Unit)→WPq)(v1:Int)(v2:Int)(v7:Int)(v8:Int)(w:World):Prop:=
 k1 (v1,v2,v7,(IntKind.wrap .i64 (v8+1)),()) w
def culletref11_weight.b1(R:EPq)(k1:(Int×Int×Int×Int×Unit)→WPq)(v1:Int)(v2:Int)(v7:Int)(v8:Int)(w:World):Prop:=
 Cd (decide (v8<v1)) (Cd (v8 !=v2) (Cl Tryz.prog 123 #[(.int .u8 v7),(.int .u8 (bXor .u8 (IntKind.wrap .u8 v2) (IntKind.wrap .u8 v8)))] (.one (.at (.int .u8))) (fun(x1:Int) w2=>
 culletref11_weight.j2 R k1 v1 v2 x1 v8 w2) w) (culletref11_weight.j2 R k1 v1 v2 v7 v8 w)) (culletref11_weight.j1 R v7 w)
def culletref11_weight.l1(R:EPq):(Int×Int×Int×Int×Unit)→World→Prop:=arZ (fun k1 s w=>culletref11_weight.b1 R k1 s.1 s.2.1 s.2.2.1 s.2.2.2.1 w)
def culletref11_weight.M(R:EPq)(v0:Int)(v1:Int)(v2:Int)(w:World):Prop:=
 Cd (v0==1) (culletref11_weight.l1 R (v1,v2,1,0,()) w) (culletref11_weight.j1 R 1 w)
noncomputable def culletref11_weight.ann(R:EPq):Ann:=
 .seq (.reg qN1) (.seq (.reg qN1) (.join [(7,qcB)] (fun s w=>culletref11_weight.j1 R s.1 w) (.seq (.reg qN2) (.cond (.seq (.reg qN1) (.block (.loop [(1,qcI),(2,qcI),(7,qcB),(8,qcI)] (fun k1 s w=>culletref11_weight.b1 R k1 s.1 s.2.1 s.2.2.1 s.2.2.2.1 w) (fun k1=>.seq (.seq (.reg qN3) (.cond (.leaf) (.leaf))) (.join [(1,qcI),(2,qcI),(7,qcB),(8,qcI)] (fun s w=>culletref11_weight.j2 R k1 s.1 s.2.1 s.2.2.1 s.2.2.2.1 w) (.block (.seq (.reg qN3) (.cond (.reg (.op 0 .now (.op 1 .now (.op 2 .now (.op 3 .now (.op 4 .now (.op 5 .now (.op 6 (.cl (.one qcB)) (.op 7 .now (.done)))))))))) (.leaf)))) (.reg qN3)))))) (.leaf))) (.seq (.reg qN2) (.leaf))))
theorem culletref11_weight.run(R:EPq)(v0:Int)(v1:Int)(v2:Int)(w:World)(h:culletref11_weight.M R v0 v1 v2 w):Calls Tryz.prog 122 #[(.int .i64 v0),(.int .i64 v1),(.int .i64 v2)] w R:=by
 refine aaZ aSZ Tryz.func122 (c:=culletref11_weight.body) (by kernel_rfl) [.at (.int .u8)] (culletref11_weight.ann R) 27 Tryz.ntmps122 [.tmp 6] (by kernel_rfl) (Nat.le_of_ble_eq_true (by kernel_rfl)) ?_ ?_
 ·exact⟨tv,⟨tv,⟨fun s w=>mq,⟨tv,⟨⟨tv,(fun k1=>⟨fun s w=>mq,⟨⟨tv,⟨tv,tv⟩⟩,⟨fun s w=>mq,⟨tv,⟨tv,tv⟩⟩,tv⟩⟩⟩)⟩,tv⟩⟩,⟨tv,tv⟩⟩⟩⟩
 ·exact Eq.mp (show culletref11_weight.M R v0 v1 v2 w=_ by kernel_rfl) h
noncomputable def culletref11_upTo.body:Code:=(Tryz.f100.body).getD .skip
def culletref11_upTo.b1(R:EPq)(k1:(Int×Sl×Int×Unit)→WPq)(v0:Int)(v3:Sl)(v4:Int)(w:World):Prop:=
 Cd (decide (v4<v0)) (Pu Tryz.prog (Instr.indexAt 25 (.slice v3.base v3.len v3.cap) (.int .i64 v4)) (.one (.at .addr)) (fun(x3:Addr) w4=>
 Wu Tryz.prog (Instr.storeAt 3 (.pointer (some x3)) (.int .i64 v4)) (fun w5=>
 k1 (v0,v3,(IntKind.wrap .i64 (v4+1)),()) w5) w4) w) (R (.returned (.slice v3.base v3.len v3.cap)) w)
def culletref11_upTo.l1(R:EPq):(Int×Sl×Int×Unit)→World→Prop:=arZ (fun k1 s w=>culletref11_upTo.b1 R k1 s.1 s.2.1 s.2.2.1 w)
def culletref11_upTo.M(R:EPq)(v0:Int)(w:World):Prop:=
 Wr Tryz.prog (Instr.makeSlice 25 (.int .i64 v0) (.int .i64 v0)) (.one (.at .sl)) (fun(x1:Sl) w2=>
 culletref11_upTo.l1 R (v0,x1,0,()) w2) w
noncomputable def culletref11_upTo.ann(R:EPq):Ann:=
 .seq (.reg qN1) (.seq (.reg (.op 0 .now (.op 1 (.wr (.one qcS)) (.op 2 .now (.done))))) (.seq (.seq (.reg qN1) (.block (.loop [(0,qcI),(3,qcS),(4,qcI)] (fun k1 s w=>culletref11_upTo.b1 R k1 s.1 s.2.1 s.2.2.1 w) (fun k1=>.seq (.seq (.reg qN3) (.cond (.leaf) (.leaf))) (.seq (.block (.reg (.op 0 .now (.op 1 .now (.op 2 .now (.op 3 qpA (.op 4 .wu (.done)))))))) (.reg qN3)))))) (.seq (.reg qN2) (.leaf))))
theorem culletref11_upTo.run(R:EPq)(v0:Int)(w:World)(h:culletref11_upTo.M R v0 w):Calls Tryz.prog 100 #[(.int .i64 v0)] w R:=by
 refine aaZ aSZ Tryz.func100 (c:=culletref11_upTo.body) (by kernel_rfl) [.at .sl] (culletref11_upTo.ann R) 17 Tryz.ntmps100 [.tmp 2] (by kernel_rfl) (Nat.le_of_ble_eq_true (by kernel_rfl)) ?_ ?_
 ·exact⟨tv,⟨tv,⟨⟨tv,(fun k1=>⟨fun s w=>mq,⟨⟨tv,⟨tv,tv⟩⟩,⟨tv,tv⟩⟩⟩)⟩,⟨tv,tv⟩⟩⟩⟩
 ·exact Eq.mp (show culletref11_upTo.M R v0 w=_ by kernel_rfl) h
noncomputable def culletref11_Row.body:Code:=(Tryz.f101.body).getD .skip
def culletref11_Row.j1(R:EPq)(k1:(Int×Int×Sl×Int×Sl×Int×Int×Unit)→WPq)(k2:(Int×Int×Sl×Int×Sl×Int×Int×Int×Int×Int×Unit)→WPq)(v0:Int)(v1:Int)(v2:Sl)(v3:Int)(v9:Sl)(v10:Int)(v12:Int)(v13:Int)(v14:Int)(v15:Int)(w:World):Prop:=
 k2 (v0,v1,v2,v3,v9,v10,v12,v13,v14,(IntKind.wrap .i64 (v15+1)),()) w
def culletref11_Row.b2(R:EPq)(k1:(Int×Int×Sl×Int×Sl×Int×Int×Unit)→WPq)(k2:(Int×Int×Sl×Int×Sl×Int×Int×Int×Int×Int×Unit)→WPq)(v0:Int)(v1:Int)(v2:Sl)(v3:Int)(v9:Sl)(v10:Int)(v12:Int)(v13:Int)(v14:Int)(v15:Int)(w:World):Prop:=
 Cd (decide (v15<v1)) (Cd (v15 !=v12) (Pu Tryz.prog (Instr.indexAt 25 (.slice v2.base v2.len v2.cap) (.int .i64 v15)) (.one (.at .addr)) (fun(x15:Addr) w16=>
 Rd Tryz.prog (Instr.loadAt 3 (.pointer (some x15))) (.one (.at (.int .i64))) (fun(x17:Int) w18=>
 Cl Tryz.prog 123 #[(.int .u8 v13),(.int .u8 (bXor .u8 (IntKind.wrap .u8 v3) (IntKind.wrap .u8 x17)))] (.one (.at (.int .u8))) (fun(x19:Int) w20=>
 Held w20.drew (fun S21=>Pu Tryz.prog (Instr.indexAt 25 (.slice v2.base v2.len v2.cap) (.int .i64 v12)) (.one (.at .addr)) (fun(x22:Addr) w23=>
 RdS Tryz.prog S21 (Instr.loadAt 3 (.pointer (some x22))) (.one (.at (.int .i64))) (fun(x24:Int) w25=>
 Pu Tryz.prog (Instr.indexAt 25 (.slice v2.base v2.len v2.cap) (.int .i64 v15)) (.one (.at .addr)) (fun(x26:Addr) w27=>
 RdS Tryz.prog S21 (Instr.loadAt 3 (.pointer (some x26))) (.one (.at (.int .i64))) (fun(x28:Int) w29=>
 Cl Tryz.prog 123 #[(.int .u8 v14),(.int .u8 (bXor .u8 (IntKind.wrap .u8 x24) (IntKind.wrap .u8 x28)))] (.one (.at (.int .u8))) (fun(x30:Int) w31=>
 S21 w31∧(culletref11_Row.j1 R k1 k2 v0 v1 v2 v3 v9 v10 v12 x19 x30 v15 w31)) w29) w27) w25) w23) w20.drew)) w18) w16) w) (culletref11_Row.j1 R k1 k2 v0 v1 v2 v3 v9 v10 v12 v13 v14 v15 w)) (Cl Tryz.prog 124 #[(.int .u8 v13),(.int .u8 v14)] (.tup [.at (.int .u8),.at (.int .i64)]) (fun x32 w33=>
 Pu Tryz.prog (Instr.indexAt 24 (.slice v9.base v9.len v9.cap) (.int .i64 v12)) (.one (.at .addr)) (fun(x34:Addr) w35=>
 Wu Tryz.prog (Instr.storeAt 5 (.pointer (some x34)) (.int .u8 x32.1)) (fun w36=>
 k1 (v0,v1,v2,v3,v9,v10,(IntKind.wrap .i64 (v12+1)),()) w36) w35) w33) w)
def culletref11_Row.l2(R:EPq)(k1:(Int×Int×Sl×Int×Sl×Int×Int×Unit)→WPq):(Int×Int×Sl×Int×Sl×Int×Int×Int×Int×Int×Unit)→World→Prop:=arZ (fun k2 s w=>culletref11_Row.b2 R k1 k2 s.1 s.2.1 s.2.2.1 s.2.2.2.1 s.2.2.2.2.1 s.2.2.2.2.2.1 s.2.2.2.2.2.2.1 s.2.2.2.2.2.2.2.1 s.2.2.2.2.2.2.2.2.1 s.2.2.2.2.2.2.2.2.2.1 w)
def culletref11_Row.b1(R:EPq)(k1:(Int×Int×Sl×Int×Sl×Int×Int×Unit)→WPq)(v0:Int)(v1:Int)(v2:Sl)(v3:Int)(v9:Sl)(v10:Int)(v12:Int)(w:World):Prop:=
 Cd (decide (v12<v1)) (Pu Tryz.prog (Instr.indexAt 25 (.slice v2.base v2.len v2.cap) (.int .i64 v12)) (.one (.at .addr)) (fun(x7:Addr) w8=>
 Rd Tryz.prog (Instr.loadAt 3 (.pointer (some x7))) (.one (.at (.int .i64))) (fun(x9:Int) w10=>
 Cl Tryz.prog 122 #[(.int .i64 v0),(.int .i64 v1),(.int .i64 x9)] (.one (.at (.int .u8))) (fun(x11:Int) w12=>
 Cl Tryz.prog 123 #[(.int .u8 x11),(.int .u8 v10)] (.one (.at (.int .u8))) (fun(x13:Int) w14=>
 culletref11_Row.l2 R k1 (v0,v1,v2,v3,v9,v10,v12,x13,1,0,()) w14) w12) w10) w8) w) (R (.returned (.slice v9.base v9.len v9.cap)) w)
def culletref11_Row.l1(R:EPq):(Int×Int×Sl×Int×Sl×Int×Int×Unit)→World→Prop:=arZ (fun k1 s w=>culletref11_Row.b1 R k1 s.1 s.2.1 s.2.2.1 s.2.2.2.1 s.2.2.2.2.1 s.2.2.2.2.2.1 s.2.2.2.2.2.2.1 w)
def culletref11_Row.M(R:EPq)(v0:Int)(v1:Int)(v2:Sl)(v3:Int)(w:World):Prop:=
 Wr Tryz.prog (Instr.makeSlice 24 (.int .i64 v1) (.int .i64 v1)) (.one (.at .sl)) (fun(x1:Sl) w2=>
 Cl Tryz.prog 122 #[(.int .i64 v0),(.int .i64 v1),(.int .i64 v3)] (.one (.at (.int .u8))) (fun(x3:Int) w4=>
 Cl Tryz.prog 121 #[(.int .u8 x3)] (.tup [.at (.int .u8),.at (.int .i64)]) (fun x5 w6=>
 culletref11_Row.l1 R (v0,v1,v2,v3,x1,x5.1,0,()) w6) w4) w2) w
noncomputable def culletref11_Row.ann(R:EPq):Ann:=
 .seq (.reg qN1) (.seq (.reg (.op 0 .now (.op 1 (.wr (.one qcS)) (.op 2 .now (.done))))) (.seq (.reg (.op 0 .now (.op 1 .now (.op 2 .now (.op 3 (.cl (.one qcB)) (.op 4 (.cl (.tup [.at (.int .u8),.at (.int .i64)])) (.op 5 .now (.op 6 .now (.op 7 .now (.op 8 .now (.op 9 .now (.done)))))))))))) (.seq (.seq (.reg qN1) (.block (.loop [(0,qcI),(1,qcI),(2,qcS),(3,qcI),(9,qcS),(10,qcB),(12,qcI)] (fun k1 s w=>culletref11_Row.b1 R k1 s.1 s.2.1 s.2.2.1 s.2.2.2.1 s.2.2.2.2.1 s.2.2.2.2.2.1 s.2.2.2.2.2.2.1 w) (fun k1=>.seq (.seq (.reg qN3) (.cond (.leaf) (.leaf))) (.seq (.block (.seq (.reg (.op 0 .now (.op 1 .now (.op 2 .now (.op 3 .now (.op 4 qpA (.op 5 (.rd (.one qcI)) (.op 6 (.cl (.one qcB)) (.op 7 .now (.op 8 (.cl (.one qcB)) (.op 9 .now (.done)))))))))))) (.seq (.reg qN1) (.seq (.seq (.reg qN1) (.block (.loop [(0,qcI),(1,qcI),(2,qcS),(3,qcI),(9,qcS),(10,qcB),(12,qcI),(13,qcB),(14,qcB),(15,qcI)] (fun k2 s w=>culletref11_Row.b2 R k1 k2 s.1 s.2.1 s.2.2.1 s.2.2.2.1 s.2.2.2.2.1 s.2.2.2.2.2.1 s.2.2.2.2.2.2.1 s.2.2.2.2.2.2.2.1 s.2.2.2.2.2.2.2.2.1 s.2.2.2.2.2.2.2.2.2.1 w) (fun k2=>.seq (.seq (.reg qN3) (.cond (.leaf) (.leaf))) (.join [(0,qcI),(1,qcI),(2,qcS),(3,qcI),(9,qcS),(10,qcB),(12,qcI),(13,qcB),(14,qcB),(15,qcI)] (fun s w=>culletref11_Row.j1 R k1 k2 s.1 s.2.1 s.2.2.1 s.2.2.2.1 s.2.2.2.2.1 s.2.2.2.2.2.1 s.2.2.2.2.2.2.1 s.2.2.2.2.2.2.2.1 s.2.2.2.2.2.2.2.2.1 s.2.2.2.2.2.2.2.2.2.1 w) (.block (.seq (.reg qN3) (.cond (.seq (.reg (.op 0 .now (.op 1 .now (.op 2 .now (.op 3 .now (.op 4 .now (.op 5 qpA (.op 6 (.rd (.one qcI)) (.op 7 .now (.op 8 .now (.op 9 (.cl (.one qcB)) (.op 10 .now (.done))))))))))))) (.regD (.op 0 .now (.op 1 .now (.op 2 .now (.op 3 qpA (.op 4 (.rd (.one qcI)) (.op 5 .now (.op 6 .now (.op 7 .now (.op 8 qpA (.op 9 (.rd (.one qcI)) (.op 10 .now (.op 11 .now (.op 12 (.cl (.one qcB)) (.op 13 .now (.done))))))))))))))))) (.leaf)))) (.reg qN3)))))) (.reg (.op 0 .now (.op 1 .now (.op 2 .now (.op 3 .now (.op 4 (.cl (.tup [.at (.int .u8),.at (.int .i64)])) (.op 5 .now (.op 6 .now (.op 7 .now (.op 8 qpA (.op 9 .wu (.done)))))))))))))))) (.reg qN3)))))) (.seq (.reg qN2) (.leaf)))))
theorem culletref11_Row.run(R:EPq)(v0:Int)(v1:Int)(v2:Sl)(v3:Int)(w:World)(h:culletref11_Row.M R v0 v1 v2 v3 w):Calls Tryz.prog 101 #[(.int .i64 v0),(.int .i64 v1),(.slice v2.base v2.len v2.cap),(.int .i64 v3)] w R:=by
 refine aaZ aSZ Tryz.func101 (c:=culletref11_Row.body) (by kernel_rfl) [.at .sl] (culletref11_Row.ann R) 81 Tryz.ntmps101 [.tmp 8] (by kernel_rfl) (Nat.le_of_ble_eq_true (by kernel_rfl)) ?_ ?_
 ·exact⟨tv,⟨tv,⟨tv,⟨⟨tv,(fun k1=>⟨fun s w=>mq,⟨⟨tv,⟨tv,tv⟩⟩,⟨⟨tv,⟨tv,⟨⟨tv,(fun k2=>⟨fun s w=>mq,⟨⟨tv,⟨tv,tv⟩⟩,⟨fun s w=>mq,⟨tv,⟨⟨tv,(show Region.noSelect _=true by kernel_rfl)⟩,tv⟩⟩,tv⟩⟩⟩)⟩,tv⟩⟩⟩,tv⟩⟩⟩)⟩,⟨tv,tv⟩⟩⟩⟩⟩
 ·exact Eq.mp (show culletref11_Row.M R v0 v1 v2 v3 w=_ by kernel_rfl) h
noncomputable def culletref11_Params.body:Code:=(Tryz.f76.body).getD .skip
def culletref11_Params.j2(R:EPq)(t32:Bool)(w:World):Prop:=
 Cd t32 (R (.returned (.int .i64 4)) w) (R (.returned (.int .i64 0)) w)
def culletref11_Params.j1(R:EPq)(v1:Int)(v2:Int)(t12:Bool)(w:World):Prop:=
 Cd t12 (R (.returned (.int .i64 2)) w) (Cd (decide (v1<1)) (culletref11_Params.j2 R true w) (Cd (decide (v2<1)) (culletref11_Params.j2 R true w) (Cd (decide (v1>256)) (culletref11_Params.j2 R true w) (Cd (decide (v2>256)) (culletref11_Params.j2 R true w) (culletref11_Params.j2 R (decide ((IntKind.wrap .i64 (v1+v2))>256)) w)))))
def culletref11_Params.M(R:EPq)(v0:Int)(v1:Int)(v2:Int)(w:World):Prop:=
 Cd (v0 !=0) (culletref11_Params.j1 R v1 v2 (v0 !=1) w) (culletref11_Params.j1 R v1 v2 false w)
noncomputable def culletref11_Params.ann(R:EPq):Ann:=
 .seq (.reg qN1) (.seq (.join [(1,qcI),(2,qcI),(12,.at .bool)] (fun s w=>culletref11_Params.j1 R s.1 s.2.1 s.2.2.1 w) (.reg (.op 0 .now (.op 1 .now (.op 2 .now (.split 2 (.op 3 .now (.op 4 .now (.op 5 .now (.done)))) (.skip 3 (.skip 4 (.op 5 .now (.done))))))))) (.cond (.seq (.reg qN1) (.leaf)) (.leaf))) (.seq (.join [(32,.at .bool)] (fun s w=>culletref11_Params.j2 R s.1 w) (.reg (.op 0 .now (.op 1 .now (.op 2 .now (.split 2 (.skip 3 (.skip 4 (.op 5 .now (.op 6 .now (.skip 7 (.skip 8 (.op 9 .now (.op 10 .now (.skip 11 (.skip 12 (.op 13 .now (.op 14 .now (.skip 15 (.skip 16 (.skip 17 (.skip 18 (.op 19 .now (.done)))))))))))))))))) (.op 3 .now (.op 4 .now (.op 5 .now (.op 6 .now (.split 6 (.skip 7 (.skip 8 (.op 9 .now (.op 10 .now (.skip 11 (.skip 12 (.op 13 .now (.op 14 .now (.skip 15 (.skip 16 (.skip 17 (.skip 18 (.op 19 .now (.done)))))))))))))) (.op 7 .now (.op 8 .now (.op 9 .now (.op 10 .now (.split 10 (.skip 11 (.skip 12 (.op 13 .now (.op 14 .now (.skip 15 (.skip 16 (.skip 17 (.skip 18 (.op 19 .now (.done)))))))))) (.op 11 .now (.op 12 .now (.op 13 .now (.op 14 .now (.split 14 (.skip 15 (.skip 16 (.skip 17 (.skip 18 (.op 19 .now (.done)))))) (.op 15 .now (.op 16 .now (.op 17 .now (.op 18 .now (.op 19 .now (.done)))))))))))))))))))))))))) (.cond (.seq (.reg qN1) (.leaf)) (.leaf))) (.seq (.reg qN1) (.leaf))))
theorem culletref11_Params.run(R:EPq)(v0:Int)(v1:Int)(v2:Int)(w:World)(h:culletref11_Params.M R v0 v1 v2 w):Calls Tryz.prog 76 #[(.int .i64 v0),(.int .i64 v1),(.int .i64 v2)] w R:=by
 refine aaZ aSZ Tryz.func76 (c:=culletref11_Params.body) (by kernel_rfl) [.at (.int .i64)] (culletref11_Params.ann R) 33 Tryz.ntmps76 [.tmp 6] (by kernel_rfl) (Nat.le_of_ble_eq_true (by kernel_rfl)) ?_ ?_
 ·exact⟨tv,⟨⟨fun s w=>mq,tv,⟨⟨tv,tv⟩,tv⟩⟩,⟨⟨fun s w=>mq,tv,⟨⟨tv,tv⟩,tv⟩⟩,⟨tv,tv⟩⟩⟩⟩
 ·exact Eq.mp (show culletref11_Params.M R v0 v1 v2 w=_ by kernel_rfl) h
noncomputable def culletref11_Parity.body:Code:=(Tryz.f77.body).getD .skip
def culletref11_Parity.b1(R:EPq)(k1:(Int×Int×Int×Sl×Sl×Int×Unit)→WPq)(v0:Int)(v1:Int)(v2:Int)(v8:Sl)(v10:Sl)(v11:Int)(w:World):Prop:=
 Cd (decide (v11<v2)) (Cl Tryz.prog 101 #[(.int .i64 v0),(.int .i64 v1),(.slice v10.base v10.len v10.cap),(.int .i64 (IntKind.wrap .i64 (v1+v11)))] (.one (.at .sl)) (fun(x5:Sl) w6=>
 Wr Tryz.prog (Instr.buildSlice 30 1 #[(0,(.slice x5.base x5.len x5.cap))]) (.one (.at .sl)) (fun(x7:Sl) w8=>
 Wr Tryz.prog (Builtin.append_ #[30,30] 30 #[(.slice v8.base v8.len v8.cap),(.slice x7.base x7.len x7.cap)]) (.one (.at .sl)) (fun(x9:Sl) w10=>
 k1 (v0,v1,v2,x9,v10,(IntKind.wrap .i64 (v11+1)),()) w10) w8) w6) w) (R (.returned (.tuple #[(.slice v8.base v8.len v8.cap),(.int .i64 0)])) w)
def culletref11_Parity.l1(R:EPq):(Int×Int×Int×Sl×Sl×Int×Unit)→World→Prop:=arZ (fun k1 s w=>culletref11_Parity.b1 R k1 s.1 s.2.1 s.2.2.1 s.2.2.2.1 s.2.2.2.2.1 s.2.2.2.2.2.1 w)
def culletref11_Parity.M(R:EPq)(v0:Int)(v1:Int)(v2:Int)(w:World):Prop:=
 Cl Tryz.prog 76 #[(.int .i64 v0),(.int .i64 v1),(.int .i64 v2)] (.one (.at (.int .i64))) (fun(x1:Int) w2=>
 Cd (x1 !=0) (R (.returned (.tuple #[(.slice none 0 0),(.int .i64 x1)])) w2) (Cl Tryz.prog 100 #[(.int .i64 v1)] (.one (.at .sl)) (fun(x3:Sl) w4=>
 culletref11_Parity.l1 R (v0,v1,v2,⟨none,0,0⟩,x3,0,()) w4) w2)) w
noncomputable def culletref11_Parity.ann(R:EPq):Ann:=
 .seq (.reg qN2) (.seq (.reg qN1) (.seq (.reg (.op 0 .now (.op 1 .now (.op 2 .now (.op 3 (.cl (.one qcI)) (.op 4 .now (.done))))))) (.seq (.seq (.reg qN2) (.cond (.seq (.reg qN4) (.leaf)) (.leaf))) (.seq (.reg (.op 0 .now (.op 1 (.cl (.one qcS)) (.op 2 .now (.done))))) (.seq (.seq (.reg qN1) (.block (.loop [(0,qcI),(1,qcI),(2,qcI),(8,qcS),(10,qcS),(11,qcI)] (fun k1 s w=>culletref11_Parity.b1 R k1 s.1 s.2.1 s.2.2.1 s.2.2.2.1 s.2.2.2.2.1 s.2.2.2.2.2.1 w) (fun k1=>.seq (.seq (.reg qN3) (.cond (.leaf) (.leaf))) (.seq (.block (.reg (.op 0 .now (.op 1 .now (.op 2 .now (.op 3 .now (.op 4 .now (.op 5 .now (.op 6 .now (.op 7 (.cl (.one qcS)) (.op 8 (.wr (.one qcS)) (.op 9 (.wr (.one qcS)) (.op 10 .now (.done)))))))))))))) (.reg qN3)))))) (.seq (.reg qN3) (.leaf)))))))
theorem culletref11_Parity.run(R:EPq)(v0:Int)(v1:Int)(v2:Int)(w:World)(h:culletref11_Parity.M R v0 v1 v2 w):Calls Tryz.prog 77 #[(.int .i64 v0),(.int .i64 v1),(.int .i64 v2)] w R:=by
 refine aaZ aSZ Tryz.func77 (c:=culletref11_Parity.body) (by kernel_rfl) [.at .sl,.at (.int .i64)] (culletref11_Parity.ann R) 38 Tryz.ntmps77 [.tmp 6,.tmp 7] (by kernel_rfl) (Nat.le_of_ble_eq_true (by kernel_rfl)) ?_ ?_
 ·exact⟨tv,⟨tv,⟨tv,⟨⟨tv,⟨⟨tv,tv⟩,tv⟩⟩,⟨tv,⟨⟨tv,(fun k1=>⟨fun s w=>mq,⟨⟨tv,⟨tv,tv⟩⟩,⟨tv,tv⟩⟩⟩)⟩,⟨tv,tv⟩⟩⟩⟩⟩⟩⟩
 ·exact Eq.mp (show culletref11_Parity.M R v0 v1 v2 w=_ by kernel_rfl) h
noncomputable def culletref17_named.body:Code:=(Tryz.f147.body).getD .skip
def culletref17_named.b1(R:EPq)(k1:(Sl×Int×Int×Unit)→WPq)(v0:Sl)(v1:Int)(v5:Int)(w:World):Prop:=
 Cd (decide (v5<((v0.len:Nat):Int))) (Pu Tryz.prog (Instr.indexAt 25 (.slice v0.base v0.len v0.cap) (.int .i64 v5)) (.one (.at .addr)) (fun(x1:Addr) w2=>
 Rd Tryz.prog (Instr.loadAt 3 (.pointer (some x1))) (.one (.at (.int .i64))) (fun(x3:Int) w4=>
 Cd (x3==v1) (R (.returned (.bool true)) w4) (k1 (v0,v1,(IntKind.wrap .i64 (v5+1)),()) w4)) w2) w) (R (.returned (.bool false)) w)
def culletref17_named.l1(R:EPq):(Sl×Int×Int×Unit)→World→Prop:=arZ (fun k1 s w=>culletref17_named.b1 R k1 s.1 s.2.1 s.2.2.1 w)
def culletref17_named.M(R:EPq)(v0:Sl)(v1:Int)(w:World):Prop:=
 culletref17_named.l1 R (v0,v1,0,()) w
noncomputable def culletref17_named.ann(R:EPq):Ann:=
 .seq (.reg qN1) (.seq (.seq (.reg qN1) (.block (.loop [(0,qcS),(1,qcI),(5,qcI)] (fun k1 s w=>culletref17_named.b1 R k1 s.1 s.2.1 s.2.2.1 w) (fun k1=>.seq (.seq (.reg qN4) (.cond (.leaf) (.leaf))) (.seq (.block (.seq (.reg (.op 0 .now (.op 1 .now (.op 2 qpA (.op 3 (.rd (.one qcI)) (.op 4 .now (.op 5 .now (.done)))))))) (.cond (.seq (.reg qN1) (.leaf)) (.leaf)))) (.reg qN3)))))) (.seq (.reg qN1) (.leaf)))
theorem culletref17_named.run(R:EPq)(v0:Sl)(v1:Int)(w:World)(h:culletref17_named.M R v0 v1 w):Calls Tryz.prog 147 #[(.slice v0.base v0.len v0.cap),(.int .i64 v1)] w R:=by
 refine aaZ aSZ Tryz.func147 (c:=culletref17_named.body) (by kernel_rfl) [.at .bool] (culletref17_named.ann R) 18 Tryz.ntmps147 [.tmp 4] (by kernel_rfl) (Nat.le_of_ble_eq_true (by kernel_rfl)) ?_ ?_
 ·exact⟨tv,⟨⟨tv,(fun k1=>⟨fun s w=>mq,⟨⟨tv,⟨tv,tv⟩⟩,⟨⟨tv,⟨⟨tv,tv⟩,tv⟩⟩,tv⟩⟩⟩)⟩,⟨tv,tv⟩⟩⟩
 ·exact Eq.mp (show culletref17_named.M R v0 v1 w=_ by kernel_rfl) h
noncomputable def culletref17_same.body:Code:=(Tryz.f148.body).getD .skip
def culletref17_same.b1(R:EPq)(k1:(Sl×Sl×Int×Unit)→WPq)(v0:Sl)(v1:Sl)(v5:Int)(w:World):Prop:=
 Cd (decide (v5<((v0.len:Nat):Int))) (Pu Tryz.prog (Instr.indexAt 25 (.slice v0.base v0.len v0.cap) (.int .i64 v5)) (.one (.at .addr)) (fun(x1:Addr) w2=>
 RdS Tryz.prog (Same w.drew) (Instr.loadAt 3 (.pointer (some x1))) (.one (.at (.int .i64))) (fun(x3:Int) w4=>
 Pu Tryz.prog (Instr.indexAt 25 (.slice v1.base v1.len v1.cap) (.int .i64 v5)) (.one (.at .addr)) (fun(x5:Addr) w6=>
 RdS Tryz.prog (Same w.drew) (Instr.loadAt 3 (.pointer (some x5))) (.one (.at (.int .i64))) (fun(x7:Int) w8=>
 Cd (x3 !=x7) (R (.returned (.bool false)) w8) (k1 (v0,v1,(IntKind.wrap .i64 (v5+1)),()) w8)) w6) w4) w2) w.drew) (R (.returned (.bool true)) w)
def culletref17_same.l1(R:EPq):(Sl×Sl×Int×Unit)→World→Prop:=arZ (fun k1 s w=>culletref17_same.b1 R k1 s.1 s.2.1 s.2.2.1 w)
def culletref17_same.M(R:EPq)(v0:Sl)(v1:Sl)(w:World):Prop:=
 Cd (((v0.len:Nat):Int) !=((v1.len:Nat):Int)) (R (.returned (.bool false)) w) (culletref17_same.l1 R (v0,v1,0,()) w)
noncomputable def culletref17_same.ann(R:EPq):Ann:=
 .seq (.reg qN1) (.seq (.seq (.reg qN5) (.cond (.seq (.reg qN1) (.leaf)) (.leaf))) (.seq (.seq (.reg qN1) (.block (.loop [(0,qcS),(1,qcS),(5,qcI)] (fun k1 s w=>culletref17_same.b1 R k1 s.1 s.2.1 s.2.2.1 w) (fun k1=>.seq (.seq (.reg qN4) (.cond (.leaf) (.leaf))) (.seq (.block (.seq (.regQ (.op 0 .now (.op 1 .now (.op 2 qpA (.op 3 (.rd (.one qcI)) (.op 4 .now (.op 5 .now (.op 6 qpA (.op 7 (.rd (.one qcI)) (.op 8 .now (.done))))))))))) (.cond (.seq (.reg qN1) (.leaf)) (.leaf)))) (.reg qN3)))))) (.seq (.reg qN1) (.leaf))))
theorem culletref17_same.run(R:EPq)(v0:Sl)(v1:Sl)(w:World)(h:culletref17_same.M R v0 v1 w):Calls Tryz.prog 148 #[(.slice v0.base v0.len v0.cap),(.slice v1.base v1.len v1.cap)] w R:=by
 refine aaZ aSZ Tryz.func148 (c:=culletref17_same.body) (by kernel_rfl) [.at .bool] (culletref17_same.ann R) 26 Tryz.ntmps148 [.tmp 4] (by kernel_rfl) (Nat.le_of_ble_eq_true (by kernel_rfl)) ?_ ?_
 ·exact⟨tv,⟨⟨tv,⟨⟨tv,tv⟩,tv⟩⟩,⟨⟨tv,(fun k1=>⟨fun s w=>mq,⟨⟨tv,⟨tv,tv⟩⟩,⟨⟨(show Region.noSelect _=true by kernel_rfl),⟨⟨tv,tv⟩,tv⟩⟩,tv⟩⟩⟩)⟩,⟨tv,tv⟩⟩⟩⟩
 ·exact Eq.mp (show culletref17_same.M R v0 v1 w=_ by kernel_rfl) h
noncomputable def culletref17_Codec_Used.body:Code:=(Tryz.f130.body).getD .skip
def culletref17_Codec_Used.j2(R:EPq)(k1:((Option Addr)×Sl×Sl×Int×Unit)→WPq)(v0:(Option Addr))(v1:Sl)(v5:Sl)(v6:Int)(w:World):Prop:=
 k1 (v0,v1,v5,(IntKind.wrap .i64 (v6+1)),()) w
def culletref17_Codec_Used.j1(R:EPq)(k1:((Option Addr)×Sl×Sl×Int×Unit)→WPq)(v0:(Option Addr))(v1:Sl)(v5:Sl)(v6:Int)(t26:Bool)(w:World):Prop:=
 Cd t26 (Cl Tryz.prog 147 #[(.slice v1.base v1.len v1.cap),(.int .i64 v6)] (.one (.at .bool)) (fun(x1:Bool) w2=>
 Cd (!x1) (Wr Tryz.prog (Instr.buildSlice 25 1 #[(0,(.int .i64 v6))]) (.one (.at .sl)) (fun(x3:Sl) w4=>
 Wr Tryz.prog (Builtin.append_ #[25,25] 25 #[(.slice v5.base v5.len v5.cap),(.slice x3.base x3.len x3.cap)]) (.one (.at .sl)) (fun(x5:Sl) w6=>
 culletref17_Codec_Used.j2 R k1 v0 v1 x5 v6 w6) w4) w2) (culletref17_Codec_Used.j2 R k1 v0 v1 v5 v6 w2)) w) (R (.returned (.slice v5.base v5.len v5.cap)) w)
def culletref17_Codec_Used.b1(R:EPq)(k1:((Option Addr)×Sl×Sl×Int×Unit)→WPq)(v0:(Option Addr))(v1:Sl)(v5:Sl)(v6:Int)(w:World):Prop:=
 Pu Tryz.prog (amZ v0) (.one (.at .addr)) (fun(x7:Addr) w8=>
 RdS Tryz.prog (Same w.drew) (Instr.loadAt 3 (.pointer (some (Addr.add x7 1)))) (.one (.at (.int .i64))) (fun(x9:Int) w10=>
 Pu Tryz.prog (amZ v0) (.one (.at .addr)) (fun(x11:Addr) w12=>
 RdS Tryz.prog (Same w.drew) (Instr.loadAt 3 (.pointer (some (Addr.add x11 2)))) (.one (.at (.int .i64))) (fun(x13:Int) w14=>
 Cd (decide (v6<(IntKind.wrap .i64 (x9+x13)))) (Pu Tryz.prog (amZ v0) (.one (.at .addr)) (fun(x15:Addr) w16=>
 RdS Tryz.prog (Same w.drew) (Instr.loadAt 3 (.pointer (some (Addr.add x15 1)))) (.one (.at (.int .i64))) (fun(x17:Int) w18=>
 culletref17_Codec_Used.j1 R k1 v0 v1 v5 v6 (decide (((v5.len:Nat):Int)<x17)) w18) w16) w14) (culletref17_Codec_Used.j1 R k1 v0 v1 v5 v6 false w14)) w12) w10) w8) w.drew
def culletref17_Codec_Used.l1(R:EPq):((Option Addr)×Sl×Sl×Int×Unit)→World→Prop:=arZ (fun k1 s w=>culletref17_Codec_Used.b1 R k1 s.1 s.2.1 s.2.2.1 s.2.2.2.1 w)
def culletref17_Codec_Used.M(R:EPq)(v0:(Option Addr))(v1:Sl)(w:World):Prop:=
 culletref17_Codec_Used.l1 R (v0,v1,⟨none,0,0⟩,0,()) w
noncomputable def culletref17_Codec_Used.ann(R:EPq):Ann:=
 .seq (.reg qN1) (.seq (.reg qN1) (.seq (.seq (.reg qN1) (.block (.loop [(0,qcP),(1,qcS),(5,qcS),(6,qcI)] (fun k1 s w=>culletref17_Codec_Used.b1 R k1 s.1 s.2.1 s.2.2.1 s.2.2.2.1 w) (fun k1=>.seq (.join [(0,qcP),(1,qcS),(5,qcS),(6,qcI),(26,.at .bool)] (fun s w=>culletref17_Codec_Used.j1 R k1 s.1 s.2.1 s.2.2.1 s.2.2.2.1 s.2.2.2.2.1 w) (.regQ (.op 0 .now (.op 1 .now (.op 2 qpA (.op 3 .now (.op 4 (.rd (.one qcI)) (.op 5 .now (.op 6 qpA (.op 7 .now (.op 8 (.rd (.one qcI)) (.op 9 .now (.op 10 .now (.op 11 .now (.split 11 (.op 12 .now (.op 13 .now (.op 14 .now (.op 15 qpA (.op 16 .now (.op 17 (.rd (.one qcI)) (.op 18 .now (.op 19 .now (.done))))))))) (.skip 12 (.skip 13 (.skip 14 (.skip 15 (.skip 16 (.skip 17 (.skip 18 (.op 19 .now (.done))))))))))))))))))))))) (.cond (.leaf) (.leaf))) (.join [(0,qcP),(1,qcS),(5,qcS),(6,qcI)] (fun s w=>culletref17_Codec_Used.j2 R k1 s.1 s.2.1 s.2.2.1 s.2.2.2.1 w) (.block (.seq (.reg (.op 0 .now (.op 1 .now (.op 2 (.cl (.one (.at .bool))) (.op 3 .now (.done)))))) (.cond (.reg (.op 0 .now (.op 1 .now (.op 2 (.wr (.one qcS)) (.op 3 (.wr (.one qcS)) (.op 4 .now (.done))))))) (.leaf)))) (.reg qN3)))))) (.seq (.reg qN2) (.leaf))))
theorem culletref17_Codec_Used.run(R:EPq)(v0:(Option Addr))(v1:Sl)(w:World)(h:culletref17_Codec_Used.M R v0 v1 w):Calls Tryz.prog 130 #[(.pointer v0),(.slice v1.base v1.len v1.cap)] w R:=by
 refine aaZ aSZ Tryz.func130 (c:=culletref17_Codec_Used.body) (by kernel_rfl) [.at .sl] (culletref17_Codec_Used.ann R) 38 Tryz.ntmps130 [.tmp 4] (by kernel_rfl) (Nat.le_of_ble_eq_true (by kernel_rfl)) ?_ ?_
 ·exact⟨tv,⟨tv,⟨⟨tv,(fun k1=>⟨fun s w=>mq,⟨⟨fun s w=>mq,(show Region.noSelect _=true by kernel_rfl),⟨tv,tv⟩⟩,⟨fun s w=>mq,⟨tv,⟨tv,tv⟩⟩,tv⟩⟩⟩)⟩,⟨tv,tv⟩⟩⟩⟩
 ·exact Eq.mp (show culletref17_Codec_Used.M R v0 v1 w=_ by kernel_rfl) h
noncomputable def culletref17_look.body:Code:=(Tryz.f146.body).getD .skip
def culletref17_look.j1(R:EPq)(k1:(Sl×Int×Int×Int×Unit)→WPq)(v0:Sl)(v4:Int)(v5:Int)(v6:Int)(w:World):Prop:=
 k1 (v0,v4,v5,(IntKind.wrap .i64 (v6+1)),()) w
def culletref17_look.b1(R:EPq)(k1:(Sl×Int×Int×Int×Unit)→WPq)(v0:Sl)(v4:Int)(v5:Int)(v6:Int)(w:World):Prop:=
 Cd (decide (v6<((v0.len:Nat):Int))) (Pu Tryz.prog (Instr.indexAt 30 (.slice v0.base v0.len v0.cap) (.int .i64 v6)) (.one (.at .addr)) (fun(x1:Addr) w2=>
 Rd Tryz.prog (Instr.loadAt 24 (.pointer (some x1))) (.one (.at .sl)) (fun(x3:Sl) w4=>
 Cd (((x3.len:Nat):Int)==0) (culletref17_look.j1 R k1 v0 (IntKind.wrap .i64 (v4+1)) v5 v6 w4) (Cd (v5==0) (culletref17_look.j1 R k1 v0 v4 ((x3.len:Nat):Int) v6 w4) (Cd (v5 !=((x3.len:Nat):Int)) (culletref17_look.j1 R k1 v0 v4 (-1) v6 w4) (culletref17_look.j1 R k1 v0 v4 v5 v6 w4)))) w2) w) (R (.returned (.tuple #[(.int .i64 v4),(.int .i64 v5)])) w)
def culletref17_look.l1(R:EPq):(Sl×Int×Int×Int×Unit)→World→Prop:=arZ (fun k1 s w=>culletref17_look.b1 R k1 s.1 s.2.1 s.2.2.1 s.2.2.2.1 w)
def culletref17_look.M(R:EPq)(v0:Sl)(w:World):Prop:=
 culletref17_look.l1 R (v0,0,0,0,()) w
noncomputable def culletref17_look.ann(R:EPq):Ann:=
 .seq (.reg qN2) (.seq (.reg qN1) (.seq (.reg qN1) (.seq (.seq (.reg qN1) (.block (.loop [(0,qcS),(4,qcI),(5,qcI),(6,qcI)] (fun k1 s w=>culletref17_look.b1 R k1 s.1 s.2.1 s.2.2.1 s.2.2.2.1 w) (fun k1=>.seq (.seq (.reg qN4) (.cond (.leaf) (.leaf))) (.join [(0,qcS),(4,qcI),(5,qcI),(6,qcI)] (fun s w=>culletref17_look.j1 R k1 s.1 s.2.1 s.2.2.1 s.2.2.2.1 w) (.block (.seq (.reg (.op 0 .now (.op 1 .now (.op 2 qpA (.op 3 qrS (.op 4 .now (.op 5 .now (.done)))))))) (.seq (.reg qN2) (.cond (.reg qN3) (.seq (.reg qN2) (.cond (.reg qN2) (.seq (.reg qN3) (.cond (.reg qN1) (.leaf))))))))) (.reg qN3)))))) (.seq (.reg qN4) (.leaf)))))
theorem culletref17_look.run(R:EPq)(v0:Sl)(w:World)(h:culletref17_look.M R v0 w):Calls Tryz.prog 146 #[(.slice v0.base v0.len v0.cap)] w R:=by
 refine aaZ aSZ Tryz.func146 (c:=culletref17_look.body) (by kernel_rfl) [.at (.int .i64),.at (.int .i64)] (culletref17_look.ann R) 31 Tryz.ntmps146 [.tmp 2,.tmp 3] (by kernel_rfl) (Nat.le_of_ble_eq_true (by kernel_rfl)) ?_ ?_
 ·exact⟨tv,⟨tv,⟨tv,⟨⟨tv,(fun k1=>⟨fun s w=>mq,⟨⟨tv,⟨tv,tv⟩⟩,⟨fun s w=>mq,⟨tv,⟨tv,⟨tv,⟨tv,⟨tv,⟨tv,⟨tv,tv⟩⟩⟩⟩⟩⟩⟩,tv⟩⟩⟩)⟩,⟨tv,tv⟩⟩⟩⟩⟩
 ·exact Eq.mp (show culletref17_look.M R v0 w=_ by kernel_rfl) h
noncomputable def culletref17_Codec_Partial.body:Code:=(Tryz.f129.body).getD .skip
def culletref17_Codec_Partial.j1(R:EPq)(k1:(Sl×Sl×Int×Int×Unit)→WPq)(v1:Sl)(v7:Sl)(v9:Int)(v10:Int)(w:World):Prop:=
 k1 (v1,v7,v9,(IntKind.wrap .i64 (v10+1)),()) w
def culletref17_Codec_Partial.b1(R:EPq)(k1:(Sl×Sl×Int×Int×Unit)→WPq)(v1:Sl)(v7:Sl)(v9:Int)(v10:Int)(w:World):Prop:=
 Cd (decide (v10<((v1.len:Nat):Int))) (Pu Tryz.prog (Instr.indexAt 30 (.slice v1.base v1.len v1.cap) (.int .i64 v10)) (.one (.at .addr)) (fun(x15:Addr) w16=>
 Rd Tryz.prog (Instr.loadAt 24 (.pointer (some x15))) (.one (.at .sl)) (fun(x17:Sl) w18=>
 Cd (((x17.len:Nat):Int)==0) (Wr Tryz.prog (Instr.buildSlice 25 1 #[(0,(.int .i64 v10))]) (.one (.at .sl)) (fun(x19:Sl) w20=>
 Wr Tryz.prog (Builtin.append_ #[25,25] 25 #[(.slice v7.base v7.len v7.cap),(.slice x19.base x19.len x19.cap)]) (.one (.at .sl)) (fun(x21:Sl) w22=>
 culletref17_Codec_Partial.j1 R k1 v1 x21 v9 v10 w22) w20) w18) (culletref17_Codec_Partial.j1 R k1 v1 v7 v9 v10 w18)) w16) w) (R (.returned (.tuple #[(.int .i64 v9),(.slice v7.base v7.len v7.cap),(.int .i64 0)])) w)
def culletref17_Codec_Partial.l1(R:EPq):(Sl×Sl×Int×Int×Unit)→World→Prop:=arZ (fun k1 s w=>culletref17_Codec_Partial.b1 R k1 s.1 s.2.1 s.2.2.1 s.2.2.2.1 w)
def culletref17_Codec_Partial.M(R:EPq)(v0:(Option Addr))(v1:Sl)(w:World):Prop:=
 Pu Tryz.prog (amZ v0) (.one (.at .addr)) (fun(x1:Addr) w2=>
 RdS Tryz.prog (Same w.drew) (Instr.loadAt 3 (.pointer (some (Addr.add x1 1)))) (.one (.at (.int .i64))) (fun(x3:Int) w4=>
 Pu Tryz.prog (amZ v0) (.one (.at .addr)) (fun(x5:Addr) w6=>
 RdS Tryz.prog (Same w.drew) (Instr.loadAt 3 (.pointer (some (Addr.add x5 2)))) (.one (.at (.int .i64))) (fun(x7:Int) w8=>
 Cd (((v1.len:Nat):Int) !=(IntKind.wrap .i64 (x3+x7))) (R (.returned (.tuple #[(.int .i64 0),(.slice none 0 0),(.int .i64 160)])) w8) (Cl Tryz.prog 146 #[(.slice v1.base v1.len v1.cap)] (.tup [.at (.int .i64),.at (.int .i64)]) (fun x9 w10=>
 Cd (x9.2.1==0) (R (.returned (.tuple #[(.int .i64 0),(.slice none 0 0),(.int .i64 161)])) w10) (Cd (decide (x9.2.1<0)) (R (.returned (.tuple #[(.int .i64 0),(.slice none 0 0),(.int .i64 162)])) w10) (Pu Tryz.prog (amZ v0) (.one (.at .addr)) (fun(x11:Addr) w12=>
 Rd Tryz.prog (Instr.loadAt 3 (.pointer (some (Addr.add x11 2)))) (.one (.at (.int .i64))) (fun(x13:Int) w14=>
 Cd (decide (x9.1>x13)) (R (.returned (.tuple #[(.int .i64 0),(.slice none 0 0),(.int .i64 9)])) w14) (culletref17_Codec_Partial.l1 R (v1,⟨none,0,0⟩,x9.2.1,0,()) w14)) w12) w10))) w8)) w6) w4) w2) w.drew
noncomputable def culletref17_Codec_Partial.ann(R:EPq):Ann:=
 .seq (.reg qN3) (.seq (.reg qN1) (.seq (.seq (.regQ (.op 0 .now (.op 1 .now (.op 2 .now (.op 3 qpA (.op 4 .now (.op 5 (.rd (.one qcI)) (.op 6 .now (.op 7 qpA (.op 8 .now (.op 9 (.rd (.one qcI)) (.op 10 .now (.op 11 .now (.done)))))))))))))) (.cond (.seq (.reg qN4) (.leaf)) (.leaf))) (.seq (.reg (.op 0 .now (.op 1 (.cl (.tup [.at (.int .i64),.at (.int .i64)])) (.op 2 .now (.op 3 .now (.op 4 .now (.op 5 .now (.op 6 .now (.done))))))))) (.seq (.seq (.reg qN2) (.cond (.seq (.reg qN4) (.leaf)) (.leaf))) (.seq (.seq (.reg qN2) (.cond (.seq (.reg qN4) (.leaf)) (.leaf))) (.seq (.seq (.reg (.op 0 .now (.op 1 .now (.op 2 qpA (.op 3 .now (.op 4 (.rd (.one qcI)) (.op 5 .now (.done)))))))) (.cond (.seq (.reg qN4) (.leaf)) (.leaf))) (.seq (.seq (.reg qN1) (.block (.loop [(1,qcS),(7,qcS),(9,qcI),(10,qcI)] (fun k1 s w=>culletref17_Codec_Partial.b1 R k1 s.1 s.2.1 s.2.2.1 s.2.2.2.1 w) (fun k1=>.seq (.seq (.reg qN4) (.cond (.leaf) (.leaf))) (.join [(1,qcS),(7,qcS),(9,qcI),(10,qcI)] (fun s w=>culletref17_Codec_Partial.j1 R k1 s.1 s.2.1 s.2.2.1 s.2.2.2.1 w) (.block (.seq (.reg (.op 0 .now (.op 1 .now (.op 2 qpA (.op 3 qrS (.op 4 .now (.op 5 .now (.done)))))))) (.cond (.reg (.op 0 .now (.op 1 .now (.op 2 (.wr (.one qcS)) (.op 3 (.wr (.one qcS)) (.op 4 .now (.done))))))) (.leaf)))) (.reg qN3)))))) (.seq (.reg qN5) (.leaf)))))))))
theorem culletref17_Codec_Partial.run(R:EPq)(v0:(Option Addr))(v1:Sl)(w:World)(h:culletref17_Codec_Partial.M R v0 v1 w):Calls Tryz.prog 129 #[(.pointer v0),(.slice v1.base v1.len v1.cap)] w R:=by
 refine aaZ aSZ Tryz.func129 (c:=culletref17_Codec_Partial.body) (by kernel_rfl) [.at (.int .i64),.at .sl,.at (.int .i64)] (culletref17_Codec_Partial.ann R) 60 Tryz.ntmps129 [.tmp 4,.tmp 5,.tmp 6] (by kernel_rfl) (Nat.le_of_ble_eq_true (by kernel_rfl)) ?_ ?_
 ·exact⟨tv,⟨tv,⟨⟨(show Region.noSelect _=true by kernel_rfl),⟨⟨tv,tv⟩,tv⟩⟩,⟨tv,⟨⟨tv,⟨⟨tv,tv⟩,tv⟩⟩,⟨⟨tv,⟨⟨tv,tv⟩,tv⟩⟩,⟨⟨tv,⟨⟨tv,tv⟩,tv⟩⟩,⟨⟨tv,(fun k1=>⟨fun s w=>mq,⟨⟨tv,⟨tv,tv⟩⟩,⟨fun s w=>mq,⟨tv,⟨tv,tv⟩⟩,tv⟩⟩⟩)⟩,⟨tv,tv⟩⟩⟩⟩⟩⟩⟩⟩⟩
 ·exact Eq.mp (show culletref17_Codec_Partial.M R v0 v1 w=_ by kernel_rfl) h
noncomputable def culletref17_copied.body:Code:=(Tryz.f125.body).getD .skip
def culletref17_copied.b1(R:EPq)(k1:(Sl×Sl×Int×Unit)→WPq)(v0:Sl)(v3:Sl)(v4:Int)(w:World):Prop:=
 Cd (decide (v4<((v0.len:Nat):Int))) (Wr Tryz.prog (Instr.buildSlice 24 0 #[]) (.one (.at .sl)) (fun(x3:Sl) w4=>
 Pu Tryz.prog (Instr.indexAt 30 (.slice v0.base v0.len v0.cap) (.int .i64 v4)) (.one (.at .addr)) (fun(x5:Addr) w6=>
 Rd Tryz.prog (Instr.loadAt 24 (.pointer (some x5))) (.one (.at .sl)) (fun(x7:Sl) w8=>
 Wr Tryz.prog (Builtin.append_ #[24,24] 24 #[(.slice x3.base x3.len x3.cap),(.slice x7.base x7.len x7.cap)]) (.one (.at .sl)) (fun(x9:Sl) w10=>
 Pu Tryz.prog (Instr.indexAt 30 (.slice v3.base v3.len v3.cap) (.int .i64 v4)) (.one (.at .addr)) (fun(x11:Addr) w12=>
 Wu Tryz.prog (Instr.storeAt 24 (.pointer (some x11)) (.slice x9.base x9.len x9.cap)) (fun w13=>
 k1 (v0,v3,(IntKind.wrap .i64 (v4+1)),()) w13) w12) w10) w8) w6) w4) w) (R (.returned (.slice v3.base v3.len v3.cap)) w)
def culletref17_copied.l1(R:EPq):(Sl×Sl×Int×Unit)→World→Prop:=arZ (fun k1 s w=>culletref17_copied.b1 R k1 s.1 s.2.1 s.2.2.1 w)
def culletref17_copied.M(R:EPq)(v0:Sl)(w:World):Prop:=
 Wr Tryz.prog (Instr.makeSlice 30 (.int .i64 ((v0.len:Nat):Int)) (.int .i64 ((v0.len:Nat):Int))) (.one (.at .sl)) (fun(x1:Sl) w2=>
 culletref17_copied.l1 R (v0,x1,0,()) w2) w
noncomputable def culletref17_copied.ann(R:EPq):Ann:=
 .seq (.reg qN1) (.seq (.reg (.op 0 .now (.op 1 .now (.op 2 (.wr (.one qcS)) (.op 3 .now (.done)))))) (.seq (.seq (.reg qN1) (.block (.loop [(0,qcS),(3,qcS),(4,qcI)] (fun k1 s w=>culletref17_copied.b1 R k1 s.1 s.2.1 s.2.2.1 w) (fun k1=>.seq (.seq (.reg qN4) (.cond (.leaf) (.leaf))) (.seq (.block (.reg (.op 0 .now (.op 1 .now (.op 2 (.wr (.one qcS)) (.op 3 .now (.op 4 .now (.op 5 qpA (.op 6 qrS (.op 7 (.wr (.one qcS)) (.op 8 qpA (.op 9 .wu (.done))))))))))))) (.reg qN3)))))) (.seq (.reg qN2) (.leaf))))
theorem culletref17_copied.run(R:EPq)(v0:Sl)(w:World)(h:culletref17_copied.M R v0 w):Calls Tryz.prog 125 #[(.slice v0.base v0.len v0.cap)] w R:=by
 refine aaZ aSZ Tryz.func125 (c:=culletref17_copied.body) (by kernel_rfl) [.at .sl] (culletref17_copied.ann R) 24 Tryz.ntmps125 [.tmp 2] (by kernel_rfl) (Nat.le_of_ble_eq_true (by kernel_rfl)) ?_ ?_
 ·exact⟨tv,⟨tv,⟨⟨tv,(fun k1=>⟨fun s w=>mq,⟨⟨tv,⟨tv,tv⟩⟩,⟨tv,tv⟩⟩⟩)⟩,⟨tv,tv⟩⟩⟩⟩
 ·exact Eq.mp (show culletref17_copied.M R v0 w=_ by kernel_rfl) h
noncomputable def culletref17_Use.body:Code:=(Tryz.f131.body).getD .skip
def culletref17_Use.j2(R:EPq)(k1:(Sl×Sl×Int×Sl×Int×Unit)→WPq)(v0:Sl)(v1:Sl)(v2:Int)(v7:Sl)(v8:Int)(w:World):Prop:=
 k1 (v0,v1,v2,v7,(IntKind.wrap .i64 (v8+1)),()) w
def culletref17_Use.j1(R:EPq)(k1:(Sl×Sl×Int×Sl×Int×Unit)→WPq)(v0:Sl)(v1:Sl)(v2:Int)(v7:Sl)(v8:Int)(t26:Bool)(w:World):Prop:=
 Cd t26 (Pu Tryz.prog (Instr.indexAt 53 (.slice v0.base v0.len v0.cap) (.int .i64 v8)) (.one (.at .addr)) (fun(x7:Addr) w8=>
 Rd Tryz.prog (Instr.loadAt 25 (.pointer (some x7))) (.one (.at .sl)) (fun(x9:Sl) w10=>
 Cl Tryz.prog 148 #[(.slice x9.base x9.len x9.cap),(.slice v1.base v1.len v1.cap)] (.one (.at .bool)) (fun(x11:Bool) w12=>
 Cd (!x11) (Pu Tryz.prog (Instr.indexAt 53 (.slice v0.base v0.len v0.cap) (.int .i64 v8)) (.one (.at .addr)) (fun(x13:Addr) w14=>
 Rd Tryz.prog (Instr.loadAt 25 (.pointer (some x13))) (.one (.at .sl)) (fun(x15:Sl) w16=>
 Wr Tryz.prog (Instr.buildSlice 53 1 #[(0,(.slice x15.base x15.len x15.cap))]) (.one (.at .sl)) (fun(x17:Sl) w18=>
 Wr Tryz.prog (Builtin.append_ #[53,53] 53 #[(.slice v7.base v7.len v7.cap),(.slice x17.base x17.len x17.cap)]) (.one (.at .sl)) (fun(x19:Sl) w20=>
 culletref17_Use.j2 R k1 v0 v1 v2 x19 v8 w20) w18) w16) w14) w12) (culletref17_Use.j2 R k1 v0 v1 v2 v7 v8 w12)) w10) w8) w) (R (.returned (.slice v7.base v7.len v7.cap)) w)
def culletref17_Use.b1(R:EPq)(k1:(Sl×Sl×Int×Sl×Int×Unit)→WPq)(v0:Sl)(v1:Sl)(v2:Int)(v7:Sl)(v8:Int)(w:World):Prop:=
 Cd (decide (v8<((v0.len:Nat):Int))) (culletref17_Use.j1 R k1 v0 v1 v2 v7 v8 (decide (((v7.len:Nat):Int)<v2)) w) (culletref17_Use.j1 R k1 v0 v1 v2 v7 v8 false w)
def culletref17_Use.l1(R:EPq):(Sl×Sl×Int×Sl×Int×Unit)→World→Prop:=arZ (fun k1 s w=>culletref17_Use.b1 R k1 s.1 s.2.1 s.2.2.1 s.2.2.2.1 s.2.2.2.2.1 w)
def culletref17_Use.M(R:EPq)(v0:Sl)(v1:Sl)(v2:Int)(w:World):Prop:=
 Cd (((v1.len:Nat):Int)==0) (R (.returned (.slice v0.base v0.len v0.cap)) w) (Wr Tryz.prog (Instr.buildSlice 25 0 #[]) (.one (.at .sl)) (fun(x1:Sl) w2=>
 Wr Tryz.prog (Builtin.append_ #[25,25] 25 #[(.slice x1.base x1.len x1.cap),(.slice v1.base v1.len v1.cap)]) (.one (.at .sl)) (fun(x3:Sl) w4=>
 Wr Tryz.prog (Instr.buildSlice 53 1 #[(0,(.slice x3.base x3.len x3.cap))]) (.one (.at .sl)) (fun(x5:Sl) w6=>
 culletref17_Use.l1 R (v0,v1,v2,x5,0,()) w6) w4) w2) w)
noncomputable def culletref17_Use.ann(R:EPq):Ann:=
 .seq (.reg qN1) (.seq (.seq (.reg qN3) (.cond (.seq (.reg qN2) (.leaf)) (.leaf))) (.seq (.reg (.op 0 (.wr (.one qcS)) (.op 1 .now (.op 2 (.wr (.one qcS)) (.op 3 (.wr (.one qcS)) (.op 4 .now (.done))))))) (.seq (.seq (.reg qN1) (.block (.loop [(0,qcS),(1,qcS),(2,qcI),(7,qcS),(8,qcI)] (fun k1 s w=>culletref17_Use.b1 R k1 s.1 s.2.1 s.2.2.1 s.2.2.2.1 s.2.2.2.2.1 w) (fun k1=>.seq (.join [(0,qcS),(1,qcS),(2,qcI),(7,qcS),(8,qcI),(26,.at .bool)] (fun s w=>culletref17_Use.j1 R k1 s.1 s.2.1 s.2.2.1 s.2.2.2.1 s.2.2.2.2.1 s.2.2.2.2.2.1 w) (.reg (.op 0 .now (.op 1 .now (.op 2 .now (.op 3 .now (.op 4 .now (.split 4 (.op 5 .now (.op 6 .now (.op 7 .now (.op 8 .now (.op 9 .now (.done)))))) (.skip 5 (.skip 6 (.skip 7 (.skip 8 (.op 9 .now (.done))))))))))))) (.cond (.leaf) (.leaf))) (.join [(0,qcS),(1,qcS),(2,qcI),(7,qcS),(8,qcI)] (fun s w=>culletref17_Use.j2 R k1 s.1 s.2.1 s.2.2.1 s.2.2.2.1 s.2.2.2.2.1 w) (.block (.seq (.reg (.op 0 .now (.op 1 .now (.op 2 qpA (.op 3 qrS (.op 4 .now (.op 5 (.cl (.one (.at .bool))) (.op 6 .now (.done))))))))) (.cond (.reg (.op 0 .now (.op 1 .now (.op 2 .now (.op 3 qpA (.op 4 qrS (.op 5 (.wr (.one qcS)) (.op 6 (.wr (.one qcS)) (.op 7 .now (.done)))))))))) (.leaf)))) (.reg qN3)))))) (.seq (.reg qN2) (.leaf)))))
theorem culletref17_Use.run(R:EPq)(v0:Sl)(v1:Sl)(v2:Int)(w:World)(h:culletref17_Use.M R v0 v1 v2 w):Calls Tryz.prog 131 #[(.slice v0.base v0.len v0.cap),(.slice v1.base v1.len v1.cap),(.int .i64 v2)] w R:=by
 refine aaZ aSZ Tryz.func131 (c:=culletref17_Use.body) (by kernel_rfl) [.at .sl] (culletref17_Use.ann R) 44 Tryz.ntmps131 [.tmp 6] (by kernel_rfl) (Nat.le_of_ble_eq_true (by kernel_rfl)) ?_ ?_
 ·exact⟨tv,⟨⟨tv,⟨⟨tv,tv⟩,tv⟩⟩,⟨tv,⟨⟨tv,(fun k1=>⟨fun s w=>mq,⟨⟨fun s w=>mq,tv,⟨tv,tv⟩⟩,⟨fun s w=>mq,⟨tv,⟨tv,tv⟩⟩,tv⟩⟩⟩)⟩,⟨tv,tv⟩⟩⟩⟩⟩
 ·exact Eq.mp (show culletref17_Use.M R v0 v1 v2 w=_ by kernel_rfl) h
noncomputable def culletref17_Codec_Give.body:Code:=(Tryz.f105.body).getD .skip
def culletref17_Codec_Give.j1(R:EPq)(k1:((Option Addr)×Sl×Bool×Sl×Int×Sl×Sl×Int×Unit)→WPq)(v0:(Option Addr))(v1:Sl)(v2:Bool)(v8:Sl)(v9:Int)(v10:Sl)(v12:Sl)(v13:Int)(w:World):Prop:=
 k1 (v0,v1,v2,v8,v9,v10,v12,(IntKind.wrap .i64 (v13+1)),()) w
def culletref17_Codec_Give.j4(R:EPq)(k1:((Option Addr)×Sl×Bool×Sl×Int×Sl×Sl×Int×Unit)→WPq)(k2:((Option Addr)×Sl×Bool×Sl×Int×Sl×Sl×Int×Sl×Sl×Int×Unit)→WPq)(k3:((Option Addr)×Sl×Bool×Sl×Int×Sl×Sl×Int×Sl×Sl×Int×Int×Unit)→WPq)(v0:(Option Addr))(v1:Sl)(v2:Bool)(v8:Sl)(v9:Int)(v10:Sl)(v12:Sl)(v13:Int)(v14:Sl)(v15:Sl)(v16:Int)(v17:Int)(w:World):Prop:=
 k3 (v0,v1,v2,v8,v9,v10,v12,v13,v14,v15,v16,(IntKind.wrap .i64 (v17+1)),()) w
def culletref17_Codec_Give.b3(R:EPq)(k1:((Option Addr)×Sl×Bool×Sl×Int×Sl×Sl×Int×Unit)→WPq)(k2:((Option Addr)×Sl×Bool×Sl×Int×Sl×Sl×Int×Sl×Sl×Int×Unit)→WPq)(k3:((Option Addr)×Sl×Bool×Sl×Int×Sl×Sl×Int×Sl×Sl×Int×Int×Unit)→WPq)(v0:(Option Addr))(v1:Sl)(v2:Bool)(v8:Sl)(v9:Int)(v10:Sl)(v12:Sl)(v13:Int)(v14:Sl)(v15:Sl)(v16:Int)(v17:Int)(w:World):Prop:=
 Pu Tryz.prog (amZ v0) (.one (.at .addr)) (fun(x9:Addr) w10=>
 Rd Tryz.prog (Instr.loadAt 3 (.pointer (some (Addr.add x9 1)))) (.one (.at (.int .i64))) (fun(x11:Int) w12=>
 Cd (decide (v17<x11)) (Held w12.drew (fun S13=>Pu Tryz.prog (Instr.indexAt 24 (.slice v15.base v15.len v15.cap) (.int .i64 v16)) (.one (.at .addr)) (fun(x14:Addr) w15=>
 Pu Tryz.prog (Instr.indexAt 24 (.slice v14.base v14.len v14.cap) (.int .i64 v17)) (.one (.at .addr)) (fun(x16:Addr) w17=>
 RdS Tryz.prog S13 (Instr.loadAt 5 (.pointer (some x16))) (.one (.at (.int .u8))) (fun(x18:Int) w19=>
 Pu Tryz.prog (Instr.indexAt 25 (.slice v12.base v12.len v12.cap) (.int .i64 v17)) (.one (.at .addr)) (fun(x20:Addr) w21=>
 RdS Tryz.prog S13 (Instr.loadAt 3 (.pointer (some x20))) (.one (.at (.int .i64))) (fun(x22:Int) w23=>
 Pu Tryz.prog (Instr.indexAt 30 (.slice v1.base v1.len v1.cap) (.int .i64 x22)) (.one (.at .addr)) (fun(x24:Addr) w25=>
 RdS Tryz.prog S13 (Instr.loadAt 24 (.pointer (some x24))) (.one (.at .sl)) (fun(x26:Sl) w27=>
 Pu Tryz.prog (Instr.indexAt 24 (.slice x26.base x26.len x26.cap) (.int .i64 v16)) (.one (.at .addr)) (fun(x28:Addr) w29=>
 RdS Tryz.prog S13 (Instr.loadAt 5 (.pointer (some x28))) (.one (.at (.int .u8))) (fun(x30:Int) w31=>
 (Wr Tryz.prog (Instr.loadAt 5 (.pointer (some x14))) (.one (.at (.int .u8))) (fun(x32:Int) w33=>
 S13 w33∧(Cl Tryz.prog 123 #[(.int .u8 x18),(.int .u8 x30)] (.one (.at (.int .u8))) (fun(x34:Int) w35=>
 S13 w35∧(Pu Tryz.prog (Instr.indexAt 24 (.slice v15.base v15.len v15.cap) (.int .i64 v16)) (.one (.at .addr)) (fun(x36:Addr) w37=>
 Wu Tryz.prog (Instr.storeAt 5 (.pointer (some x36)) (.int .u8 (bXor .u8 x32 x34))) (fun w38=>
 S13 w38∧(culletref17_Codec_Give.j4 R k1 k2 k3 v0 v1 v2 v8 v9 v10 v12 v13 v14 v15 v16 v17 w38)) w37) w35)) w33)) w31)∧(Cl Tryz.prog 123 #[(.int .u8 x18),(.int .u8 x30)] (.one (.at (.int .u8))) (fun(x39:Int) w40=>
 S13 w40∧(Wr Tryz.prog (Instr.loadAt 5 (.pointer (some x14))) (.one (.at (.int .u8))) (fun(x41:Int) w42=>
 S13 w42∧(Pu Tryz.prog (Instr.indexAt 24 (.slice v15.base v15.len v15.cap) (.int .i64 v16)) (.one (.at .addr)) (fun(x43:Addr) w44=>
 Wu Tryz.prog (Instr.storeAt 5 (.pointer (some x43)) (.int .u8 (bXor .u8 x41 x39))) (fun w45=>
 S13 w45∧(culletref17_Codec_Give.j4 R k1 k2 k3 v0 v1 v2 v8 v9 v10 v12 v13 v14 v15 v16 v17 w45)) w44) w42)) w40)) w31)) w29) w27) w25) w23) w21) w19) w17) w15) w12.drew)) (k2 (v0,v1,v2,v8,v9,v10,v12,v13,v14,v15,(IntKind.wrap .i64 (v16+1)),()) w12)) w10) w
def culletref17_Codec_Give.l3(R:EPq)(k1:((Option Addr)×Sl×Bool×Sl×Int×Sl×Sl×Int×Unit)→WPq)(k2:((Option Addr)×Sl×Bool×Sl×Int×Sl×Sl×Int×Sl×Sl×Int×Unit)→WPq):((Option Addr)×Sl×Bool×Sl×Int×Sl×Sl×Int×Sl×Sl×Int×Int×Unit)→World→Prop:=arZ (fun k3 s w=>culletref17_Codec_Give.b3 R k1 k2 k3 s.1 s.2.1 s.2.2.1 s.2.2.2.1 s.2.2.2.2.1 s.2.2.2.2.2.1 s.2.2.2.2.2.2.1 s.2.2.2.2.2.2.2.1 s.2.2.2.2.2.2.2.2.1 s.2.2.2.2.2.2.2.2.2.1 s.2.2.2.2.2.2.2.2.2.2.1 s.2.2.2.2.2.2.2.2.2.2.2.1 w)
def culletref17_Codec_Give.b2(R:EPq)(k1:((Option Addr)×Sl×Bool×Sl×Int×Sl×Sl×Int×Unit)→WPq)(k2:((Option Addr)×Sl×Bool×Sl×Int×Sl×Sl×Int×Sl×Sl×Int×Unit)→WPq)(v0:(Option Addr))(v1:Sl)(v2:Bool)(v8:Sl)(v9:Int)(v10:Sl)(v12:Sl)(v13:Int)(v14:Sl)(v15:Sl)(v16:Int)(w:World):Prop:=
 Cd (decide (v16<v9)) (culletref17_Codec_Give.l3 R k1 k2 (v0,v1,v2,v8,v9,v10,v12,v13,v14,v15,v16,0,()) w) (Pu Tryz.prog (Instr.indexAt 25 (.slice v10.base v10.len v10.cap) (.int .i64 v13)) (.one (.at .addr)) (fun(x46:Addr) w47=>
 Rd Tryz.prog (Instr.loadAt 3 (.pointer (some x46))) (.one (.at (.int .i64))) (fun(x48:Int) w49=>
 Pu Tryz.prog (Instr.indexAt 30 (.slice v8.base v8.len v8.cap) (.int .i64 x48)) (.one (.at .addr)) (fun(x50:Addr) w51=>
 Wu Tryz.prog (Instr.storeAt 24 (.pointer (some x50)) (.slice v15.base v15.len v15.cap)) (fun w52=>
 culletref17_Codec_Give.j1 R k1 v0 v1 v2 v8 v9 v10 v12 v13 w52) w51) w49) w47) w)
def culletref17_Codec_Give.l2(R:EPq)(k1:((Option Addr)×Sl×Bool×Sl×Int×Sl×Sl×Int×Unit)→WPq):((Option Addr)×Sl×Bool×Sl×Int×Sl×Sl×Int×Sl×Sl×Int×Unit)→World→Prop:=arZ (fun k2 s w=>culletref17_Codec_Give.b2 R k1 k2 s.1 s.2.1 s.2.2.1 s.2.2.2.1 s.2.2.2.2.1 s.2.2.2.2.2.1 s.2.2.2.2.2.2.1 s.2.2.2.2.2.2.2.1 s.2.2.2.2.2.2.2.2.1 s.2.2.2.2.2.2.2.2.2.1 s.2.2.2.2.2.2.2.2.2.2.1 w)
def culletref17_Codec_Give.j3(R:EPq)(k1:((Option Addr)×Sl×Bool×Sl×Int×Sl×Sl×Int×Unit)→WPq)(v0:(Option Addr))(v1:Sl)(v2:Bool)(v8:Sl)(v9:Int)(v10:Sl)(v12:Sl)(v13:Int)(v14:Sl)(w:World):Prop:=
 Wr Tryz.prog (Instr.makeSlice 24 (.int .i64 v9) (.int .i64 v9)) (.one (.at .sl)) (fun(x7:Sl) w8=>
 culletref17_Codec_Give.l2 R k1 (v0,v1,v2,v8,v9,v10,v12,v13,v14,x7,0,()) w8) w
def culletref17_Codec_Give.j2(R:EPq)(k1:((Option Addr)×Sl×Bool×Sl×Int×Sl×Sl×Int×Unit)→WPq)(v0:(Option Addr))(v1:Sl)(v2:Bool)(v8:Sl)(v9:Int)(v10:Sl)(v12:Sl)(v13:Int)(t51:Bool)(w:World):Prop:=
 Cd t51 (culletref17_Codec_Give.j1 R k1 v0 v1 v2 v8 v9 v10 v12 v13 w) (Held w.drew (fun S53=>Pu Tryz.prog (amZ v0) (.one (.at .addr)) (fun(x54:Addr) w55=>
 RdS Tryz.prog S53 (Instr.loadAt 3 (.pointer (some x54))) (.one (.at (.int .i64))) (fun(x56:Int) w57=>
 Pu Tryz.prog (amZ v0) (.one (.at .addr)) (fun(x58:Addr) w59=>
 RdS Tryz.prog S53 (Instr.loadAt 3 (.pointer (some (Addr.add x58 1)))) (.one (.at (.int .i64))) (fun(x60:Int) w61=>
 Pu Tryz.prog (Instr.indexAt 25 (.slice v10.base v10.len v10.cap) (.int .i64 v13)) (.one (.at .addr)) (fun(x62:Addr) w63=>
 RdS Tryz.prog S53 (Instr.loadAt 3 (.pointer (some x62))) (.one (.at (.int .i64))) (fun(x64:Int) w65=>
 Cl Tryz.prog 101 #[(.int .i64 x56),(.int .i64 x60),(.slice v12.base v12.len v12.cap),(.int .i64 x64)] (.one (.at .sl)) (fun(x66:Sl) w67=>
 S53 w67∧(culletref17_Codec_Give.j3 R k1 v0 v1 v2 v8 v9 v10 v12 v13 x66 w67)) w65) w63) w61) w59) w57) w55) w.drew))
def culletref17_Codec_Give.b1(R:EPq)(k1:((Option Addr)×Sl×Bool×Sl×Int×Sl×Sl×Int×Unit)→WPq)(v0:(Option Addr))(v1:Sl)(v2:Bool)(v8:Sl)(v9:Int)(v10:Sl)(v12:Sl)(v13:Int)(w:World):Prop:=
 Cd (decide (v13<((v10.len:Nat):Int))) (Cd v2 (Pu Tryz.prog (Instr.indexAt 25 (.slice v10.base v10.len v10.cap) (.int .i64 v13)) (.one (.at .addr)) (fun(x68:Addr) w69=>
 RdS Tryz.prog (Same w.drew) (Instr.loadAt 3 (.pointer (some x68))) (.one (.at (.int .i64))) (fun(x70:Int) w71=>
 Pu Tryz.prog (amZ v0) (.one (.at .addr)) (fun(x72:Addr) w73=>
 RdS Tryz.prog (Same w.drew) (Instr.loadAt 3 (.pointer (some (Addr.add x72 1)))) (.one (.at (.int .i64))) (fun(x74:Int) w75=>
 culletref17_Codec_Give.j2 R k1 v0 v1 v2 v8 v9 v10 v12 v13 (decide (x70≥x74)) w75) w73) w71) w69) w.drew) (culletref17_Codec_Give.j2 R k1 v0 v1 v2 v8 v9 v10 v12 v13 false w.drew)) (Pu Tryz.prog (amZ v0) (.one (.at .addr)) (fun(x76:Addr) w77=>
 Rd Tryz.prog (Instr.loadAt 53 (.pointer (some (Addr.add x76 4)))) (.one (.at .sl)) (fun(x78:Sl) w79=>
 Cl Tryz.prog 131 #[(.slice x78.base x78.len x78.cap),(.slice v10.base v10.len v10.cap),(.int .i64 16)] (.one (.at .sl)) (fun(x80:Sl) w81=>
 Pu Tryz.prog (amZ v0) (.one (.at .addr)) (fun(x82:Addr) w83=>
 Wu Tryz.prog (Instr.storeAt 53 (.pointer (some (Addr.add x82 4))) (.slice x80.base x80.len x80.cap)) (fun w84=>
 R (.returned (.tuple #[(.slice v8.base v8.len v8.cap),(.int .i64 0)])) w84) w83) w81) w79) w77) w)
def culletref17_Codec_Give.l1(R:EPq):((Option Addr)×Sl×Bool×Sl×Int×Sl×Sl×Int×Unit)→World→Prop:=arZ (fun k1 s w=>culletref17_Codec_Give.b1 R k1 s.1 s.2.1 s.2.2.1 s.2.2.2.1 s.2.2.2.2.1 s.2.2.2.2.2.1 s.2.2.2.2.2.2.1 s.2.2.2.2.2.2.2.1 w)
def culletref17_Codec_Give.M(R:EPq)(v0:(Option Addr))(v1:Sl)(v2:Bool)(w:World):Prop:=
 Cl Tryz.prog 125 #[(.slice v1.base v1.len v1.cap)] (.one (.at .sl)) (fun(x1:Sl) w2=>
 Cl Tryz.prog 129 #[(.pointer v0),(.slice v1.base v1.len v1.cap)] (.tup [.at (.int .i64),.at .sl,.at (.int .i64)]) (fun x3 w4=>
 Cd (x3.2.2.1 !=0) (R (.returned (.tuple #[(.slice x1.base x1.len x1.cap),(.int .i64 x3.2.2.1)])) w4) (Cl Tryz.prog 130 #[(.pointer v0),(.slice x3.2.1.base x3.2.1.len x3.2.1.cap)] (.one (.at .sl)) (fun(x5:Sl) w6=>
 culletref17_Codec_Give.l1 R (v0,v1,v2,x1,x3.1,x3.2.1,x5,0,()) w6) w4)) w2) w
noncomputable def culletref17_Codec_Give.ann(R:EPq):Ann:=
 .seq (.reg qN2) (.seq (.reg (.op 0 .now (.op 1 (.cl (.one qcS)) (.op 2 .now (.done))))) (.seq (.reg (.op 0 .now (.op 1 .now (.op 2 (.cl (.tup [.at (.int .i64),.at .sl,.at (.int .i64)])) (.op 3 .now (.op 4 .now (.op 5 .now (.op 6 .now (.op 7 .now (.op 8 .now (.op 9 .now (.done)))))))))))) (.seq (.seq (.reg qN2) (.cond (.seq (.reg qN4) (.leaf)) (.leaf))) (.seq (.reg (.op 0 .now (.op 1 .now (.op 2 (.cl (.one qcS)) (.op 3 .now (.done)))))) (.seq (.seq (.reg qN1) (.block (.loop [(0,qcP),(1,qcS),(2,.at .bool),(8,qcS),(9,qcI),(10,qcS),(12,qcS),(13,qcI)] (fun k1 s w=>culletref17_Codec_Give.b1 R k1 s.1 s.2.1 s.2.2.1 s.2.2.2.1 s.2.2.2.2.1 s.2.2.2.2.2.1 s.2.2.2.2.2.2.1 s.2.2.2.2.2.2.2.1 w) (fun k1=>.seq (.seq (.reg qN4) (.cond (.leaf) (.leaf))) (.join [(0,qcP),(1,qcS),(2,.at .bool),(8,qcS),(9,qcI),(10,qcS),(12,qcS),(13,qcI)] (fun s w=>culletref17_Codec_Give.j1 R k1 s.1 s.2.1 s.2.2.1 s.2.2.2.1 s.2.2.2.2.1 s.2.2.2.2.2.1 s.2.2.2.2.2.2.1 s.2.2.2.2.2.2.2.1 w) (.block (.seq (.join [(0,qcP),(1,qcS),(2,.at .bool),(8,qcS),(9,qcI),(10,qcS),(12,qcS),(13,qcI),(51,.at .bool)] (fun s w=>culletref17_Codec_Give.j2 R k1 s.1 s.2.1 s.2.2.1 s.2.2.2.1 s.2.2.2.2.1 s.2.2.2.2.2.1 s.2.2.2.2.2.2.1 s.2.2.2.2.2.2.2.1 s.2.2.2.2.2.2.2.2.1 w) (.regQ (.op 0 .now (.op 1 .now (.split 1 (.op 2 .now (.op 3 .now (.op 4 qpA (.op 5 (.rd (.one qcI)) (.op 6 .now (.op 7 qpA (.op 8 .now (.op 9 (.rd (.one qcI)) (.op 10 .now (.op 11 .now (.done))))))))))) (.skip 2 (.skip 3 (.skip 4 (.skip 5 (.skip 6 (.skip 7 (.skip 8 (.skip 9 (.skip 10 (.op 11 .now (.done))))))))))))))) (.cond (.leaf) (.leaf))) (.join [(0,qcP),(1,qcS),(2,.at .bool),(8,qcS),(9,qcI),(10,qcS),(12,qcS),(13,qcI),(14,qcS)] (fun s w=>culletref17_Codec_Give.j3 R k1 s.1 s.2.1 s.2.2.1 s.2.2.2.1 s.2.2.2.2.1 s.2.2.2.2.2.1 s.2.2.2.2.2.2.1 s.2.2.2.2.2.2.2.1 s.2.2.2.2.2.2.2.2.1 w) (.regD (.op 0 .now (.op 1 qpA (.op 2 .now (.op 3 (.rd (.one qcI)) (.op 4 .now (.op 5 qpA (.op 6 .now (.op 7 (.rd (.one qcI)) (.op 8 .now (.op 9 .now (.op 10 .now (.op 11 qpA (.op 12 (.rd (.one qcI)) (.op 13 (.cl (.one qcS)) (.op 14 .now (.done))))))))))))))))) (.seq (.reg (.op 0 .now (.op 1 (.wr (.one qcS)) (.op 2 .now (.done))))) (.seq (.seq (.reg qN1) (.block (.loop [(0,qcP),(1,qcS),(2,.at .bool),(8,qcS),(9,qcI),(10,qcS),(12,qcS),(13,qcI),(14,qcS),(15,qcS),(16,qcI)] (fun k2 s w=>culletref17_Codec_Give.b2 R k1 k2 s.1 s.2.1 s.2.2.1 s.2.2.2.1 s.2.2.2.2.1 s.2.2.2.2.2.1 s.2.2.2.2.2.2.1 s.2.2.2.2.2.2.2.1 s.2.2.2.2.2.2.2.2.1 s.2.2.2.2.2.2.2.2.2.1 s.2.2.2.2.2.2.2.2.2.2.1 w) (fun k2=>.seq (.seq (.reg qN3) (.cond (.leaf) (.leaf))) (.seq (.block (.seq (.reg qN1) (.block (.loop [(0,qcP),(1,qcS),(2,.at .bool),(8,qcS),(9,qcI),(10,qcS),(12,qcS),(13,qcI),(14,qcS),(15,qcS),(16,qcI),(17,qcI)] (fun k3 s w=>culletref17_Codec_Give.b3 R k1 k2 k3 s.1 s.2.1 s.2.2.1 s.2.2.2.1 s.2.2.2.2.1 s.2.2.2.2.2.1 s.2.2.2.2.2.2.1 s.2.2.2.2.2.2.2.1 s.2.2.2.2.2.2.2.2.1 s.2.2.2.2.2.2.2.2.2.1 s.2.2.2.2.2.2.2.2.2.2.1 s.2.2.2.2.2.2.2.2.2.2.2.1 w) (fun k3=>.seq (.seq (.reg (.op 0 .now (.op 1 .now (.op 2 qpA (.op 3 .now (.op 4 (.rd (.one qcI)) (.op 5 .now (.done)))))))) (.cond (.leaf) (.leaf))) (.join [(0,qcP),(1,qcS),(2,.at .bool),(8,qcS),(9,qcI),(10,qcS),(12,qcS),(13,qcI),(14,qcS),(15,qcS),(16,qcI),(17,qcI)] (fun s w=>culletref17_Codec_Give.j4 R k1 k2 k3 s.1 s.2.1 s.2.2.1 s.2.2.2.1 s.2.2.2.2.1 s.2.2.2.2.2.1 s.2.2.2.2.2.2.1 s.2.2.2.2.2.2.2.1 s.2.2.2.2.2.2.2.2.1 s.2.2.2.2.2.2.2.2.2.1 s.2.2.2.2.2.2.2.2.2.2.1 s.2.2.2.2.2.2.2.2.2.2.2.1 w) (.block (.regD (.op 0 .now (.op 1 .now (.op 2 qpA (.op 4 .now (.op 5 .now (.op 6 qpA (.op 7 qrB (.op 8 .now (.op 9 .now (.op 10 .now (.op 11 qpA (.op 12 (.rd (.one qcI)) (.op 13 qpA (.op 14 qrS (.op 15 .now (.op 16 qpA (.op 17 qrB (.fork2 3 (.wr (.one qcB)) (.op 18 (.cl (.one qcB)) (.op 19 .now (.op 20 qpA (.op 21 .wu (.done))))) 18 (.cl (.one qcB)) (.op 3 (.wr (.one qcB)) (.op 19 .now (.op 20 qpA (.op 21 .wu (.done))))))))))))))))))))))))) (.reg qN3))))))) (.reg qN3)))))) (.reg (.op 0 .now (.op 1 .now (.op 2 .now (.op 3 qpA (.op 4 (.rd (.one qcI)) (.op 5 .now (.op 6 qpA (.op 7 .wu (.done))))))))))))))) (.reg qN3)))))) (.seq (.reg (.op 0 .now (.op 1 .now (.op 2 qpA (.op 3 .now (.op 4 qrS (.op 5 .now (.op 6 (.cl (.one qcS)) (.op 7 qpA (.op 8 .now (.op 9 .wu (.done)))))))))))) (.seq (.reg qN3) (.leaf))))))))
theorem culletref17_Codec_Give.run(R:EPq)(v0:(Option Addr))(v1:Sl)(v2:Bool)(w:World)(h:culletref17_Codec_Give.M R v0 v1 v2 w):Calls Tryz.prog 105 #[(.pointer v0),(.slice v1.base v1.len v1.cap),(.bool v2)] w R:=by
 refine aaZ aSZ Tryz.func105 (c:=culletref17_Codec_Give.body) (by kernel_rfl) [.at .sl,.at (.int .i64)] (culletref17_Codec_Give.ann R) 119 Tryz.ntmps105 [.tmp 6,.tmp 7] (by kernel_rfl) (Nat.le_of_ble_eq_true (by kernel_rfl)) ?_ ?_
 ·exact⟨tv,⟨tv,⟨tv,⟨⟨tv,⟨⟨tv,tv⟩,tv⟩⟩,⟨tv,⟨⟨tv,(fun k1=>⟨fun s w=>mq,⟨⟨tv,⟨tv,tv⟩⟩,⟨fun s w=>mq,⟨⟨fun s w=>mq,(show Region.noSelect _=true by kernel_rfl),⟨tv,tv⟩⟩,⟨fun s w=>mq,(show Region.noSelect _=true by kernel_rfl),⟨tv,⟨⟨tv,(fun k2=>⟨fun s w=>mq,⟨⟨tv,⟨tv,tv⟩⟩,⟨⟨tv,(fun k3=>⟨fun s w=>mq,⟨⟨tv,⟨tv,tv⟩⟩,⟨fun s w=>mq,(show Region.noSelect _=true by kernel_rfl),tv⟩⟩⟩)⟩,tv⟩⟩⟩)⟩,tv⟩⟩⟩⟩,tv⟩⟩⟩)⟩,⟨tv,⟨tv,tv⟩⟩⟩⟩⟩⟩⟩⟩
 ·exact Eq.mp (show culletref17_Codec_Give.M R v0 v1 v2 w=_ by kernel_rfl) h
noncomputable def culletref17_New.body:Code:=(Tryz.f49.body).getD .skip
def culletref17_New.j2(R:EPq)(v0:Int)(v2:Int)(v3:Int)(v10:(Option Addr))(t26:Bool)(w:World):Prop:=
 Cd t26 (R (.returned (.tuple #[(.pointer v10),(.int .i64 3)])) w) (Cl Tryz.prog 76 #[(.int .i64 v0),(.int .i64 v2),(.int .i64 v3)] (.one (.at (.int .i64))) (fun(x1:Int) w2=>
 Cd (x1 !=0) (R (.returned (.tuple #[(.pointer v10),(.int .i64 x1)])) w2) (Cl Tryz.prog 77 #[(.int .i64 v0),(.int .i64 v2),(.int .i64 v3)] (.tup [.at .sl,.at (.int .i64)]) (fun x3 w4=>
 Wr Tryz.prog (Instr.box 103 (.agg #[(.int .i64 v0),(.int .i64 v2),(.int .i64 v3),(.slice x3.1.base x3.1.len x3.1.cap),(.slice none 0 0)])) (.one (.at .addr)) (fun(x5:Addr) w6=>
 R (.returned (.tuple #[(.pointer (some x5)),(.int .i64 0)])) w6) w4) w2)) w)
def culletref17_New.j1(R:EPq)(v0:Int)(v1:Int)(v2:Int)(v3:Int)(v10:(Option Addr))(t19:Bool)(w:World):Prop:=
 Cd t19 (R (.returned (.tuple #[(.pointer v10),(.int .i64 2)])) w) (Cd (decide (v1<0)) (culletref17_New.j2 R v0 v2 v3 v10 true w) (culletref17_New.j2 R v0 v2 v3 v10 (decide (v1>2)) w))
def culletref17_New.M(R:EPq)(v0:Int)(v1:Int)(v2:Int)(v3:Int)(w:World):Prop:=
 Cd (v0 !=0) (culletref17_New.j1 R v0 v1 v2 v3 none (v0 !=1) w) (culletref17_New.j1 R v0 v1 v2 v3 none false w)
noncomputable def culletref17_New.ann(R:EPq):Ann:=
 .seq (.reg qN2) (.seq (.reg qN1) (.seq (.join [(0,qcI),(1,qcI),(2,qcI),(3,qcI),(10,qcP),(19,.at .bool)] (fun s w=>culletref17_New.j1 R s.1 s.2.1 s.2.2.1 s.2.2.2.1 s.2.2.2.2.1 s.2.2.2.2.2.1 w) (.reg (.op 0 .now (.op 1 .now (.op 2 .now (.split 2 (.op 3 .now (.op 4 .now (.op 5 .now (.done)))) (.skip 3 (.skip 4 (.op 5 .now (.done))))))))) (.cond (.seq (.reg qN3) (.leaf)) (.leaf))) (.seq (.join [(0,qcI),(2,qcI),(3,qcI),(10,qcP),(26,.at .bool)] (fun s w=>culletref17_New.j2 R s.1 s.2.1 s.2.2.1 s.2.2.2.1 s.2.2.2.2.1 w) (.reg (.op 0 .now (.op 1 .now (.op 2 .now (.split 2 (.skip 3 (.skip 4 (.op 5 .now (.done)))) (.op 3 .now (.op 4 .now (.op 5 .now (.done))))))))) (.cond (.seq (.reg qN3) (.leaf)) (.leaf))) (.seq (.reg (.op 0 .now (.op 1 .now (.op 2 .now (.op 3 (.cl (.one qcI)) (.op 4 .now (.done))))))) (.seq (.seq (.reg qN2) (.cond (.seq (.reg qN4) (.leaf)) (.leaf))) (.seq (.reg (.op 0 .now (.op 1 .now (.op 2 .now (.op 3 (.cl (.tup [.at .sl,.at (.int .i64)])) (.op 4 .now (.op 5 .now (.op 6 .now (.op 7 .now (.op 8 .now (.done))))))))))) (.seq (.reg (.op 0 .now (.op 1 .now (.op 2 .now (.op 3 .now (.op 4 .now (.op 5 (.wr (.one (.at .addr))) (.op 6 .now (.op 7 .now (.done)))))))))) (.leaf))))))))
theorem culletref17_New.run(R:EPq)(v0:Int)(v1:Int)(v2:Int)(v3:Int)(w:World)(h:culletref17_New.M R v0 v1 v2 v3 w):Calls Tryz.prog 49 #[(.int .i64 v0),(.int .i64 v1),(.int .i64 v2),(.int .i64 v3)] w R:=by
 refine aaZ aSZ Tryz.func49 (c:=culletref17_New.body) (by kernel_rfl) [.at .ptr,.at (.int .i64)] (culletref17_New.ann R) 49 Tryz.ntmps49 [.tmp 8,.tmp 9] (by kernel_rfl) (Nat.le_of_ble_eq_true (by kernel_rfl)) ?_ ?_
 ·exact⟨tv,⟨tv,⟨⟨fun s w=>mq,tv,⟨⟨tv,tv⟩,tv⟩⟩,⟨⟨fun s w=>mq,tv,⟨⟨tv,tv⟩,tv⟩⟩,⟨tv,⟨⟨tv,⟨⟨tv,tv⟩,tv⟩⟩,⟨tv,⟨tv,tv⟩⟩⟩⟩⟩⟩⟩⟩
 ·exact Eq.mp (show culletref17_New.M R v0 v1 v2 v3 w=_ by kernel_rfl) h
noncomputable def q17lay.body:Code:=(Tryz.f102.body).getD .skip
def q17lay.j2(R:EPq)(k1:(Sl×Bool×Addr×Addr×Int×Unit)→WPq)(v0:Sl)(v1:Bool)(t4:Addr)(v5:Addr)(v6:Int)(v9:Sl)(w:World):Prop:=
 Rd Tryz.prog (Instr.loadAt 30 (.pointer (some (Addr.add v5 1)))) (.one (.at .sl)) (fun(x21:Sl) w22=>
 Wr Tryz.prog (Instr.buildSlice 30 1 #[(0,(.slice v9.base v9.len v9.cap))]) (.one (.at .sl)) (fun(x23:Sl) w24=>
 Wr Tryz.prog (Builtin.append_ #[30,30] 30 #[(.slice x21.base x21.len x21.cap),(.slice x23.base x23.len x23.cap)]) (.one (.at .sl)) (fun(x25:Sl) w26=>
 Wu Tryz.prog (Instr.storeAt 30 (.pointer (some (Addr.add v5 1))) (.slice x25.base x25.len x25.cap)) (fun w27=>
 k1 (v0,v1,t4,v5,(IntKind.wrap .i64 (v6+1)),()) w27) w26) w24) w22) w
def q17lay.j3(R:EPq)(k1:(Sl×Bool×Addr×Addr×Int×Unit)→WPq)(v0:Sl)(v1:Bool)(t4:Addr)(v5:Addr)(v6:Int)(v7:Sl)(v9:Sl)(t55:Bool)(w:World):Prop:=
 Cd t55 (Pu Tryz.prog (Instr.indexAt 30 (.slice v0.base v0.len v0.cap) (.int .i64 v6)) (.one (.at .addr)) (fun(x28:Addr) w29=>
 Rd Tryz.prog (Instr.loadAt 24 (.pointer (some x28))) (.one (.at .sl)) (fun(x30:Sl) w31=>
 Pu Tryz.prog (Instr.sliceAt 24 (.slice v7.base v7.len v7.cap) (some (.int .i64 3)) (some (.int .i64 (IntKind.wrap .i64 (3+((x30.len:Nat):Int))))) none) (.one (.at .sl)) (fun(x32:Sl) w33=>
 q17lay.j2 R k1 v0 v1 t4 v5 v6 x32 w33) w31) w29) w) (q17lay.j2 R k1 v0 v1 t4 v5 v6 v9 w)
def q17lay.j1(R:EPq)(k1:(Sl×Bool×Addr×Addr×Int×Unit)→WPq)(v0:Sl)(v1:Bool)(t4:Addr)(v5:Addr)(v6:Int)(v7:Sl)(w:World):Prop:=
 Rd Tryz.prog (Instr.loadAt 30 (.pointer (some v5))) (.one (.at .sl)) (fun(x14:Sl) w15=>
 Wr Tryz.prog (Instr.buildSlice 30 1 #[(0,(.slice v7.base v7.len v7.cap))]) (.one (.at .sl)) (fun(x16:Sl) w17=>
 Wr Tryz.prog (Builtin.append_ #[30,30] 30 #[(.slice x14.base x14.len x14.cap),(.slice x16.base x16.len x16.cap)]) (.one (.at .sl)) (fun(x18:Sl) w19=>
 Wu Tryz.prog (Instr.storeAt 30 (.pointer (some v5)) (.slice x18.base x18.len x18.cap)) (fun w20=>
 Pu Tryz.prog (Instr.indexAt 30 (.slice v0.base v0.len v0.cap) (.int .i64 v6)) (.one (.at .addr)) (fun(x34:Addr) w35=>
 Rd Tryz.prog (Instr.loadAt 24 (.pointer (some x34))) (.one (.at .sl)) (fun(x36:Sl) w37=>
 Cd (decide (((x36.len:Nat):Int)>0)) (q17lay.j3 R k1 v0 v1 t4 v5 v6 v7 ⟨none,0,0⟩ true w37) (q17lay.j3 R k1 v0 v1 t4 v5 v6 v7 ⟨none,0,0⟩ (!v1) w37)) w35) w20) w19) w17) w15) w
def q17lay.b2(R:EPq)(k1:(Sl×Bool×Addr×Addr×Int×Unit)→WPq)(k2:(Sl×Bool×Addr×Addr×Int×Sl×Int×Unit)→WPq)(v0:Sl)(v1:Bool)(t4:Addr)(v5:Addr)(v6:Int)(v7:Sl)(v8:Int)(w:World):Prop:=
 Cd (decide (v8<((v7.len:Nat):Int))) (Pu Tryz.prog (Instr.indexAt 24 (.slice v7.base v7.len v7.cap) (.int .i64 v8)) (.one (.at .addr)) (fun(x11:Addr) w12=>
 Wu Tryz.prog (Instr.storeAt 5 (.pointer (some x11)) (.int .u8 91)) (fun w13=>
 k2 (v0,v1,t4,v5,v6,v7,(IntKind.wrap .i64 (v8+1)),()) w13) w12) w) (Held w.drew (fun S38=>Pu Tryz.prog (Instr.sliceAt 24 (.slice v7.base v7.len v7.cap) (some (.int .i64 3)) none none) (.one (.at .sl)) (fun(x39:Sl) w40=>
 Pu Tryz.prog (Instr.indexAt 30 (.slice v0.base v0.len v0.cap) (.int .i64 v6)) (.one (.at .addr)) (fun(x41:Addr) w42=>
 RdS Tryz.prog S38 (Instr.loadAt 24 (.pointer (some x41))) (.one (.at .sl)) (fun(x43:Sl) w44=>
 Wr Tryz.prog (Builtin.copy_ #[24,24] 3 #[(.slice x39.base x39.len x39.cap),(.slice x43.base x43.len x43.cap)]) (.one (.at (.int .i64))) (fun(x45:Int) w46=>
 S38 w46∧(q17lay.j1 R k1 v0 v1 t4 v5 v6 v7 w46)) w44) w42) w40) w.drew))
def q17lay.l2(R:EPq)(k1:(Sl×Bool×Addr×Addr×Int×Unit)→WPq):(Sl×Bool×Addr×Addr×Int×Sl×Int×Unit)→World→Prop:=arZ (fun k2 s w=>q17lay.b2 R k1 k2 s.1 s.2.1 s.2.2.1 s.2.2.2.1 s.2.2.2.2.1 s.2.2.2.2.2.1 s.2.2.2.2.2.2.1 w)
def q17lay.b1(R:EPq)(k1:(Sl×Bool×Addr×Addr×Int×Unit)→WPq)(v0:Sl)(v1:Bool)(t4:Addr)(v5:Addr)(v6:Int)(w:World):Prop:=
 Cd (decide (v6<((v0.len:Nat):Int))) (Pu Tryz.prog (Instr.indexAt 30 (.slice v0.base v0.len v0.cap) (.int .i64 v6)) (.one (.at .addr)) (fun(x5:Addr) w6=>
 Rd Tryz.prog (Instr.loadAt 24 (.pointer (some x5))) (.one (.at .sl)) (fun(x7:Sl) w8=>
 Wr Tryz.prog (Instr.makeSlice 24 (.int .i64 (IntKind.wrap .i64 ((IntKind.wrap .i64 (3+((x7.len:Nat):Int)))+70))) (.int .i64 (IntKind.wrap .i64 ((IntKind.wrap .i64 (3+((x7.len:Nat):Int)))+70)))) (.one (.at .sl)) (fun(x9:Sl) w10=>
 q17lay.l2 R k1 (v0,v1,t4,v5,v6,x9,0,()) w10) w8) w6) w) (Rd Tryz.prog (Instr.loadAt 30 (.pointer (some (Addr.add v5 1)))) (.one (.at .sl)) (fun(x47:Sl) w48=>
 Wr Tryz.prog (Instr.buildSlice 24 1 #[(0,(.int .u8 92))]) (.one (.at .sl)) (fun(x49:Sl) w50=>
 Wr Tryz.prog (Instr.buildSlice 30 1 #[(0,(.slice x49.base x49.len x49.cap))]) (.one (.at .sl)) (fun(x51:Sl) w52=>
 Wr Tryz.prog (Builtin.append_ #[30,30] 30 #[(.slice x47.base x47.len x47.cap),(.slice x51.base x51.len x51.cap)]) (.one (.at .sl)) (fun(x53:Sl) w54=>
 Wu Tryz.prog (Instr.storeAt 30 (.pointer (some (Addr.add v5 1))) (.slice x53.base x53.len x53.cap)) (fun w55=>
 Rd Tryz.prog (Instr.loadAt 165 (.pointer (some v5))) (.one (.agg [.sl,.sl])) (fun x56 w57=>
 Wu Tryz.prog (Instr.storeAt 165 (.pointer (some t4)) (.agg #[(.slice x56.1.base x56.1.len x56.1.cap),(.slice x56.2.1.base x56.2.1.len x56.2.1.cap)])) (fun w58=>
 ∃r59:(Sl×Sl×Unit),(loadVar 165 t4).run Tryz.prog w58=.ok (.agg #[(.slice r59.1.base r59.1.len r59.1.cap),(.slice r59.2.1.base r59.2.1.len r59.2.1.cap)]) w58∧R (.returned (.agg #[(.slice r59.1.base r59.1.len r59.1.cap),(.slice r59.2.1.base r59.2.1.len r59.2.1.cap)])) w58) w57) w55) w54) w52) w50) w48) w)
def q17lay.l1(R:EPq):(Sl×Bool×Addr×Addr×Int×Unit)→World→Prop:=arZ (fun k1 s w=>q17lay.b1 R k1 s.1 s.2.1 s.2.2.1 s.2.2.2.1 s.2.2.2.2.1 w)
def q17lay.M(R:EPq)(v0:Sl)(v1:Bool)(w:World):Prop:=
 Wr Tryz.prog (Instr.alloc 165 true (.tuple #[])) (.one (.at .addr)) (fun(x1:Addr) w2=>
 Wr Tryz.prog (Instr.alloc 165 true (.tuple #[])) (.one (.at .addr)) (fun(x3:Addr) w4=>
 q17lay.l1 R (v0,v1,x1,x3,0,()) w4) w2) w
noncomputable def q17lay.ann(R:EPq):Ann:=
 .seq (.reg (.op 0 (.wr (.one (.at .addr))) (.done))) (.seq (.reg (.op 0 (.wr (.one (.at .addr))) (.done))) (.seq (.seq (.reg qN1) (.block (.loop [(0,qcS),(1,.at .bool),(4,.at .addr),(5,.at .addr),(6,qcI)] (fun k1 s w=>q17lay.b1 R k1 s.1 s.2.1 s.2.2.1 s.2.2.2.1 s.2.2.2.2.1 w) (fun k1=>.seq (.seq (.reg qN4) (.cond (.leaf) (.leaf))) (.seq (.block (.seq (.reg (.op 0 .now (.op 1 .now (.op 2 qpA (.op 3 qrS (.op 4 .now (.op 5 .now (.op 6 .now (.op 7 (.wr (.one qcS)) (.op 8 .now (.done))))))))))) (.seq (.seq (.reg qN1) (.block (.loop [(0,qcS),(1,.at .bool),(4,.at .addr),(5,.at .addr),(6,qcI),(7,qcS),(8,qcI)] (fun k2 s w=>q17lay.b2 R k1 k2 s.1 s.2.1 s.2.2.1 s.2.2.2.1 s.2.2.2.2.1 s.2.2.2.2.2.1 s.2.2.2.2.2.2.1 w) (fun k2=>.seq (.seq (.reg qN4) (.cond (.leaf) (.leaf))) (.seq (.block (.reg (.op 0 .now (.op 1 .now (.op 2 qpA (.op 3 .wu (.done))))))) (.reg qN3)))))) (.join [(0,qcS),(1,.at .bool),(4,.at .addr),(5,.at .addr),(6,qcI),(7,qcS)] (fun s w=>q17lay.j1 R k1 s.1 s.2.1 s.2.2.1 s.2.2.2.1 s.2.2.2.2.1 s.2.2.2.2.2.1 w) (.regD (.op 0 .now (.op 1 (.pu (.one qcS)) (.op 2 .now (.op 3 .now (.op 4 qpA (.op 5 qrS (.op 6 (.wr (.one qcI)) (.done))))))))) (.seq (.reg (.op 0 .now (.op 1 qrS (.op 2 .now (.op 3 (.wr (.one qcS)) (.op 4 (.wr (.one qcS)) (.op 5 .now (.op 6 .wu (.done))))))))) (.seq (.reg qN1) (.join [(0,qcS),(1,.at .bool),(4,.at .addr),(5,.at .addr),(6,qcI),(9,qcS)] (fun s w=>q17lay.j2 R k1 s.1 s.2.1 s.2.2.1 s.2.2.2.1 s.2.2.2.2.1 s.2.2.2.2.2.1 w) (.join [(0,qcS),(1,.at .bool),(4,.at .addr),(5,.at .addr),(6,qcI),(7,qcS),(9,qcS),(55,.at .bool)] (fun s w=>q17lay.j3 R k1 s.1 s.2.1 s.2.2.1 s.2.2.2.1 s.2.2.2.2.1 s.2.2.2.2.2.1 s.2.2.2.2.2.2.1 s.2.2.2.2.2.2.2.1 w) (.reg (.op 0 .now (.op 1 .now (.op 2 qpA (.op 3 qrS (.op 4 .now (.op 5 .now (.op 6 .now (.split 6 (.skip 7 (.skip 8 (.op 9 .now (.done)))) (.op 7 .now (.op 8 .now (.op 9 .now (.done))))))))))))) (.cond (.reg (.op 0 .now (.op 1 .now (.op 2 .now (.op 3 qpA (.op 4 qrS (.op 5 .now (.op 6 .now (.op 7 (.pu (.one qcS)) (.op 8 .now (.done))))))))))) (.leaf))) (.reg (.op 0 .now (.op 1 qrS (.op 2 .now (.op 3 (.wr (.one qcS)) (.op 4 (.wr (.one qcS)) (.op 5 .now (.op 6 .wu (.done)))))))))))))))) (.reg qN3)))))) (.seq (.reg (.op 0 .now (.op 1 qrS (.op 2 (.wr (.one qcS)) (.op 3 (.wr (.one qcS)) (.op 4 (.wr (.one qcS)) (.op 5 .now (.op 6 .wu (.done))))))))) (.seq (.reg (.op 0 (.rd (.one (.agg [.sl,.sl]))) (.op 1 .wu (.done)))) (.leaf)))))
theorem q17lay.run(R:EPq)(v0:Sl)(v1:Bool)(w:World)(h:q17lay.M R v0 v1 w):Calls Tryz.prog 102 #[(.slice v0.base v0.len v0.cap),(.bool v1)] w R:=by
 refine aaZ aSZ Tryz.func102 (c:=q17lay.body) (by kernel_rfl) [.agg [.sl,.sl]] (q17lay.ann R) 77 Tryz.ntmps102 [.cell 4 165] (by kernel_rfl) (Nat.le_of_ble_eq_true (by kernel_rfl)) ?_ ?_
 ·exact⟨tv,⟨tv,⟨⟨tv,(fun k1=>⟨fun s w=>mq,⟨⟨tv,⟨tv,tv⟩⟩,⟨⟨tv,⟨⟨tv,(fun k2=>⟨fun s w=>mq,⟨⟨tv,⟨tv,tv⟩⟩,⟨tv,tv⟩⟩⟩)⟩,⟨fun s w=>mq,(show Region.noSelect _=true by kernel_rfl),⟨tv,⟨tv,⟨fun s w=>mq,⟨fun s w=>mq,tv,⟨tv,tv⟩⟩,tv⟩⟩⟩⟩⟩⟩,tv⟩⟩⟩)⟩,⟨tv,⟨tv,tv⟩⟩⟩⟩⟩
 ·exact Eq.mp (show q17lay.M R v0 v1 w=_ by kernel_rfl) h
noncomputable def q17Laid_shards.body:Code:=(Tryz.f103.body).getD .skip
def q17Laid_shards.M(R:EPq)(v0:(Sl×Sl×Unit))(w:World):Prop:=
 Wr Tryz.prog (Instr.box 165 (.agg #[(.slice v0.1.base v0.1.len v0.1.cap),(.slice v0.2.1.base v0.2.1.len v0.2.1.cap)])) (.one (.at .addr)) (fun(x1:Addr) w2=>
 Rd Tryz.prog (Instr.loadAt 30 (.pointer (some (Addr.add x1 1)))) (.one (.at .sl)) (fun(x3:Sl) w4=>
 Rd Tryz.prog (Instr.loadAt 30 (.pointer (some (Addr.add x1 1)))) (.one (.at .sl)) (fun(x5:Sl) w6=>
 Pu Tryz.prog (Instr.sliceAt 30 (.slice x3.base x3.len x3.cap) none (some (.int .i64 (IntKind.wrap .i64 (((x5.len:Nat):Int)-1)))) none) (.one (.at .sl)) (fun(x7:Sl) w8=>
 R (.returned (.slice x7.base x7.len x7.cap)) w8) w6) w4) w2) w
noncomputable def q17Laid_shards.ann(R:EPq):Ann:=
 .seq (.reg (.op 0 (.wr (.one (.at .addr))) (.op 1 .now (.done)))) (.seq (.reg (.op 0 .now (.op 1 qrS (.op 2 .now (.op 3 qrS (.op 4 .now (.op 5 .now (.op 6 (.pu (.one qcS)) (.op 7 .now (.done)))))))))) (.leaf))
theorem q17Laid_shards.run(R:EPq)(v0:(Sl×Sl×Unit))(w:World)(h:q17Laid_shards.M R v0 w):Calls Tryz.prog 103 #[(.agg #[(.slice v0.1.base v0.1.len v0.1.cap),(.slice v0.2.1.base v0.2.1.len v0.2.1.cap)])] w R:=by
 refine aaZ aSZ Tryz.func103 (c:=q17Laid_shards.body) (by kernel_rfl) [.at .sl] (q17Laid_shards.ann R) 10 Tryz.ntmps103 [.tmp 2] (by kernel_rfl) (Nat.le_of_ble_eq_true (by kernel_rfl)) ?_ ?_
 ·exact⟨tv,⟨tv,tv⟩⟩
 ·exact Eq.mp (show q17Laid_shards.M R v0 w=_ by kernel_rfl) h
noncomputable def q17Laid_holds.body:Code:=(Tryz.f107.body).getD .skip
def q17Laid_holds.j2(R:EPq)(k1:(Sl×Sl×Addr×Sl×Int×Unit)→WPq)(v1:Sl)(v2:Sl)(v3:Addr)(v7:Sl)(v8:Int)(w:World):Prop:=
 k1 (v1,v2,v3,v7,(IntKind.wrap .i64 (v8+1)),()) w
def q17Laid_holds.b2(R:EPq)(k1:(Sl×Sl×Addr×Sl×Int×Unit)→WPq)(k2:(Sl×Sl×Addr×Sl×Int×Int×Unit)→WPq)(v1:Sl)(v2:Sl)(v3:Addr)(v7:Sl)(v8:Int)(v9:Int)(w:World):Prop:=
 Pu Tryz.prog (Instr.indexAt 30 (.slice v7.base v7.len v7.cap) (.int .i64 v8)) (.one (.at .addr)) (fun(x11:Addr) w12=>
 Rd Tryz.prog (Instr.loadAt 24 (.pointer (some x11))) (.one (.at .sl)) (fun(x13:Sl) w14=>
 Cd (decide (v9<((x13.len:Nat):Int))) (Pu Tryz.prog (Instr.indexAt 30 (.slice v7.base v7.len v7.cap) (.int .i64 v8)) (.one (.at .addr)) (fun(x15:Addr) w16=>
 Rd Tryz.prog (Instr.loadAt 24 (.pointer (some x15))) (.one (.at .sl)) (fun(x17:Sl) w18=>
 Pu Tryz.prog (Instr.indexAt 24 (.slice x17.base x17.len x17.cap) (.int .i64 v9)) (.one (.at .addr)) (fun(x19:Addr) w20=>
 Wu Tryz.prog (Instr.storeAt 5 (.pointer (some x19)) (.int .u8 (IntKind.wrap .u8 (IntKind.wrap .i64 ((IntKind.wrap .i64 (2*v8))+1))))) (fun w21=>
 k2 (v1,v2,v3,v7,v8,(IntKind.wrap .i64 (v9+1)),()) w21) w20) w18) w16) w14) (q17Laid_holds.j2 R k1 v1 v2 v3 v7 v8 w14)) w12) w
def q17Laid_holds.l2(R:EPq)(k1:(Sl×Sl×Addr×Sl×Int×Unit)→WPq):(Sl×Sl×Addr×Sl×Int×Int×Unit)→World→Prop:=arZ (fun k2 s w=>q17Laid_holds.b2 R k1 k2 s.1 s.2.1 s.2.2.1 s.2.2.2.1 s.2.2.2.2.1 s.2.2.2.2.2.1 w)
def q17Laid_holds.j3(R:EPq)(k3:(Sl×Sl×Addr×Sl×Sl×Int×Unit)→WPq)(v1:Sl)(v2:Sl)(v3:Addr)(v7:Sl)(v10:Sl)(v11:Int)(w:World):Prop:=
 k3 (v1,v2,v3,v7,v10,(IntKind.wrap .i64 (v11+1)),()) w
def q17Laid_holds.b4(R:EPq)(k3:(Sl×Sl×Addr×Sl×Sl×Int×Unit)→WPq)(k4:(Sl×Sl×Addr×Sl×Sl×Int×Sl×Int×Unit)→WPq)(v1:Sl)(v2:Sl)(v3:Addr)(v7:Sl)(v10:Sl)(v11:Int)(v12:Sl)(v13:Int)(w:World):Prop:=
 Cd (decide (v13<70)) (Wr Tryz.prog (Instr.buildSlice 24 1 #[(0,(.int .u8 (IntKind.wrap .u8 (IntKind.wrap .i64 ((IntKind.wrap .i64 (2*v11))+2)))))]) (.one (.at .sl)) (fun(x28:Sl) w29=>
 Wr Tryz.prog (Builtin.append_ #[24,24] 24 #[(.slice v12.base v12.len v12.cap),(.slice x28.base x28.len x28.cap)]) (.one (.at .sl)) (fun(x30:Sl) w31=>
 k4 (v1,v2,v3,v7,v10,v11,x30,(IntKind.wrap .i64 (v13+1)),()) w31) w29) w) (Pu Tryz.prog (Instr.indexAt 30 (.slice v10.base v10.len v10.cap) (.int .i64 v11)) (.one (.at .addr)) (fun(x32:Addr) w33=>
 Wu Tryz.prog (Instr.storeAt 24 (.pointer (some x32)) (.slice v12.base v12.len v12.cap)) (fun w34=>
 q17Laid_holds.j3 R k3 v1 v2 v3 v7 v10 v11 w34) w33) w)
def q17Laid_holds.l4(R:EPq)(k3:(Sl×Sl×Addr×Sl×Sl×Int×Unit)→WPq):(Sl×Sl×Addr×Sl×Sl×Int×Sl×Int×Unit)→World→Prop:=arZ (fun k4 s w=>q17Laid_holds.b4 R k3 k4 s.1 s.2.1 s.2.2.1 s.2.2.2.1 s.2.2.2.2.1 s.2.2.2.2.2.1 s.2.2.2.2.2.2.1 s.2.2.2.2.2.2.2.1 w)
def q17Laid_holds.j4(R:EPq)(k3:(Sl×Sl×Addr×Sl×Sl×Int×Unit)→WPq)(v1:Sl)(v2:Sl)(v3:Addr)(v7:Sl)(v10:Sl)(v11:Int)(t89:Bool)(w:World):Prop:=
 Cd t89 (Pu Tryz.prog (Instr.indexAt 30 (.slice v7.base v7.len v7.cap) (.int .i64 v11)) (.one (.at .addr)) (fun(x24:Addr) w25=>
 Rd Tryz.prog (Instr.loadAt 24 (.pointer (some x24))) (.one (.at .sl)) (fun(x26:Sl) w27=>
 q17Laid_holds.l4 R k3 (v1,v2,v3,v7,v10,v11,x26,0,()) w27) w25) w) (q17Laid_holds.j3 R k3 v1 v2 v3 v7 v10 v11 w)
def q17Laid_holds.j5(R:EPq)(k5:(Sl×Sl×Addr×Sl×Sl×Int×Unit)→WPq)(k6:(Sl×Sl×Addr×Sl×Sl×Int×Int×Unit)→WPq)(v1:Sl)(v2:Sl)(v3:Addr)(v7:Sl)(v10:Sl)(v14:Int)(v15:Int)(t167:Bool)(w:World):Prop:=
 Cd t167 (R (.returned (.bool false)) w) (k6 (v1,v2,v3,v7,v10,v14,(IntKind.wrap .i64 (v15+1)),()) w)
def q17Laid_holds.j6(R:EPq)(k5:(Sl×Sl×Addr×Sl×Sl×Int×Unit)→WPq)(k7:(Sl×Sl×Addr×Sl×Sl×Int×Sl×Int×Int×Unit)→WPq)(v1:Sl)(v2:Sl)(v3:Addr)(v7:Sl)(v10:Sl)(v14:Int)(v16:Sl)(v17:Int)(v18:Int)(w:World):Prop:=
 k7 (v1,v2,v3,v7,v10,v14,v16,v17,(IntKind.wrap .i64 (v18+1)),()) w
def q17Laid_holds.j7(R:EPq)(k5:(Sl×Sl×Addr×Sl×Sl×Int×Unit)→WPq)(k7:(Sl×Sl×Addr×Sl×Sl×Int×Sl×Int×Int×Unit)→WPq)(v1:Sl)(v2:Sl)(v3:Addr)(v7:Sl)(v10:Sl)(v14:Int)(v16:Sl)(v17:Int)(v18:Int)(t191:Bool)(w:World):Prop:=
 Cd t191 (Pu Tryz.prog (Instr.indexAt 24 (.slice v16.base v16.len v16.cap) (.int .i64 v18)) (.one (.at .addr)) (fun(x93:Addr) w94=>
 RdS Tryz.prog (Same w.drew) (Instr.loadAt 5 (.pointer (some x93))) (.one (.at (.int .u8))) (fun(x95:Int) w96=>
 Pu Tryz.prog (Instr.indexAt 30 (.slice v2.base v2.len v2.cap) (.int .i64 v14)) (.one (.at .addr)) (fun(x97:Addr) w98=>
 RdS Tryz.prog (Same w.drew) (Instr.loadAt 24 (.pointer (some x97))) (.one (.at .sl)) (fun(x99:Sl) w100=>
 Pu Tryz.prog (Instr.indexAt 24 (.slice x99.base x99.len x99.cap) (.int .i64 (IntKind.wrap .i64 (v18-3)))) (.one (.at .addr)) (fun(x101:Addr) w102=>
 RdS Tryz.prog (Same w.drew) (Instr.loadAt 5 (.pointer (some x101))) (.one (.at (.int .u8))) (fun(x103:Int) w104=>
 Cd (x95 !=x103) (R (.returned (.bool false)) w104) (q17Laid_holds.j6 R k5 k7 v1 v2 v3 v7 v10 v14 v16 v17 v18 w104)) w102) w100) w98) w96) w94) w.drew) (Pu Tryz.prog (Instr.indexAt 24 (.slice v16.base v16.len v16.cap) (.int .i64 v18)) (.one (.at .addr)) (fun(x105:Addr) w106=>
 Rd Tryz.prog (Instr.loadAt 5 (.pointer (some x105))) (.one (.at (.int .u8))) (fun(x107:Int) w108=>
 Cd (x107 !=91) (R (.returned (.bool false)) w108) (q17Laid_holds.j6 R k5 k7 v1 v2 v3 v7 v10 v14 v16 v17 v18 w108)) w106) w)
def q17Laid_holds.b7(R:EPq)(k5:(Sl×Sl×Addr×Sl×Sl×Int×Unit)→WPq)(k7:(Sl×Sl×Addr×Sl×Sl×Int×Sl×Int×Int×Unit)→WPq)(v1:Sl)(v2:Sl)(v3:Addr)(v7:Sl)(v10:Sl)(v14:Int)(v16:Sl)(v17:Int)(v18:Int)(w:World):Prop:=
 Cd (decide (v18<((v16.len:Nat):Int))) (Cd (decide (v18≥3)) (q17Laid_holds.j7 R k5 k7 v1 v2 v3 v7 v10 v14 v16 v17 v18 (decide (v18<(IntKind.wrap .i64 (3+v17)))) w) (q17Laid_holds.j7 R k5 k7 v1 v2 v3 v7 v10 v14 v16 v17 v18 false w)) (k5 (v1,v2,v3,v7,v10,(IntKind.wrap .i64 (v14+1)),()) w)
def q17Laid_holds.l7(R:EPq)(k5:(Sl×Sl×Addr×Sl×Sl×Int×Unit)→WPq):(Sl×Sl×Addr×Sl×Sl×Int×Sl×Int×Int×Unit)→World→Prop:=arZ (fun k7 s w=>q17Laid_holds.b7 R k5 k7 s.1 s.2.1 s.2.2.1 s.2.2.2.1 s.2.2.2.2.1 s.2.2.2.2.2.1 s.2.2.2.2.2.2.1 s.2.2.2.2.2.2.2.1 s.2.2.2.2.2.2.2.2.1 w)
def q17Laid_holds.b6(R:EPq)(k5:(Sl×Sl×Addr×Sl×Sl×Int×Unit)→WPq)(k6:(Sl×Sl×Addr×Sl×Sl×Int×Int×Unit)→WPq)(v1:Sl)(v2:Sl)(v3:Addr)(v7:Sl)(v10:Sl)(v14:Int)(v15:Int)(w:World):Prop:=
 Pu Tryz.prog (Instr.indexAt 30 (.slice v10.base v10.len v10.cap) (.int .i64 v14)) (.one (.at .addr)) (fun(x43:Addr) w44=>
 Rd Tryz.prog (Instr.loadAt 24 (.pointer (some x43))) (.one (.at .sl)) (fun(x45:Sl) w46=>
 Cd (decide (v15<((x45.len:Nat):Int))) (Pu Tryz.prog (Instr.indexAt 30 (.slice v7.base v7.len v7.cap) (.int .i64 v14)) (.one (.at .addr)) (fun(x47:Addr) w48=>
 Rd Tryz.prog (Instr.loadAt 24 (.pointer (some x47))) (.one (.at .sl)) (fun(x49:Sl) w50=>
 Cd (decide (v15<((x49.len:Nat):Int))) (Pu Tryz.prog (Instr.indexAt 30 (.slice v10.base v10.len v10.cap) (.int .i64 v14)) (.one (.at .addr)) (fun(x51:Addr) w52=>
 Rd Tryz.prog (Instr.loadAt 24 (.pointer (some x51))) (.one (.at .sl)) (fun(x53:Sl) w54=>
 Pu Tryz.prog (Instr.indexAt 24 (.slice x53.base x53.len x53.cap) (.int .i64 v15)) (.one (.at .addr)) (fun(x55:Addr) w56=>
 Rd Tryz.prog (Instr.loadAt 5 (.pointer (some x55))) (.one (.at (.int .u8))) (fun(x57:Int) w58=>
 Cd (x57 !=(IntKind.wrap .u8 (IntKind.wrap .i64 ((IntKind.wrap .i64 (2*v14))+1)))) (q17Laid_holds.j5 R k5 k6 v1 v2 v3 v7 v10 v14 v15 true w58) (Pu Tryz.prog (Instr.indexAt 30 (.slice v7.base v7.len v7.cap) (.int .i64 v14)) (.one (.at .addr)) (fun(x59:Addr) w60=>
 Rd Tryz.prog (Instr.loadAt 24 (.pointer (some x59))) (.one (.at .sl)) (fun(x61:Sl) w62=>
 Cd (decide (v15≥((x61.len:Nat):Int))) (Pu Tryz.prog (Instr.indexAt 30 (.slice v10.base v10.len v10.cap) (.int .i64 v14)) (.one (.at .addr)) (fun(x63:Addr) w64=>
 Rd Tryz.prog (Instr.loadAt 24 (.pointer (some x63))) (.one (.at .sl)) (fun(x65:Sl) w66=>
 Pu Tryz.prog (Instr.indexAt 24 (.slice x65.base x65.len x65.cap) (.int .i64 v15)) (.one (.at .addr)) (fun(x67:Addr) w68=>
 Rd Tryz.prog (Instr.loadAt 5 (.pointer (some x67))) (.one (.at (.int .u8))) (fun(x69:Int) w70=>
 q17Laid_holds.j5 R k5 k6 v1 v2 v3 v7 v10 v14 v15 (x69 !=(IntKind.wrap .u8 (IntKind.wrap .i64 ((IntKind.wrap .i64 (2*v14))+2)))) w70) w68) w66) w64) w62) (q17Laid_holds.j5 R k5 k6 v1 v2 v3 v7 v10 v14 v15 false w62)) w60) w58)) w56) w54) w52) w50) (Pu Tryz.prog (Instr.indexAt 30 (.slice v7.base v7.len v7.cap) (.int .i64 v14)) (.one (.at .addr)) (fun(x71:Addr) w72=>
 Rd Tryz.prog (Instr.loadAt 24 (.pointer (some x71))) (.one (.at .sl)) (fun(x73:Sl) w74=>
 Cd (decide (v15≥((x73.len:Nat):Int))) (Pu Tryz.prog (Instr.indexAt 30 (.slice v10.base v10.len v10.cap) (.int .i64 v14)) (.one (.at .addr)) (fun(x75:Addr) w76=>
 Rd Tryz.prog (Instr.loadAt 24 (.pointer (some x75))) (.one (.at .sl)) (fun(x77:Sl) w78=>
 Pu Tryz.prog (Instr.indexAt 24 (.slice x77.base x77.len x77.cap) (.int .i64 v15)) (.one (.at .addr)) (fun(x79:Addr) w80=>
 Rd Tryz.prog (Instr.loadAt 5 (.pointer (some x79))) (.one (.at (.int .u8))) (fun(x81:Int) w82=>
 q17Laid_holds.j5 R k5 k6 v1 v2 v3 v7 v10 v14 v15 (x81 !=(IntKind.wrap .u8 (IntKind.wrap .i64 ((IntKind.wrap .i64 (2*v14))+2)))) w82) w80) w78) w76) w74) (q17Laid_holds.j5 R k5 k6 v1 v2 v3 v7 v10 v14 v15 false w74)) w72) w50)) w48) w46) (Rd Tryz.prog (Instr.loadAt 30 (.pointer (some v3))) (.one (.at .sl)) (fun(x83:Sl) w84=>
 Pu Tryz.prog (Instr.indexAt 30 (.slice x83.base x83.len x83.cap) (.int .i64 v14)) (.one (.at .addr)) (fun(x85:Addr) w86=>
 Rd Tryz.prog (Instr.loadAt 24 (.pointer (some x85))) (.one (.at .sl)) (fun(x87:Sl) w88=>
 Pu Tryz.prog (Instr.indexAt 30 (.slice v1.base v1.len v1.cap) (.int .i64 v14)) (.one (.at .addr)) (fun(x89:Addr) w90=>
 Rd Tryz.prog (Instr.loadAt 24 (.pointer (some x89))) (.one (.at .sl)) (fun(x91:Sl) w92=>
 q17Laid_holds.l7 R k5 (v1,v2,v3,v7,v10,v14,x87,((x91.len:Nat):Int),0,()) w92) w90) w88) w86) w84) w46)) w44) w
def q17Laid_holds.l6(R:EPq)(k5:(Sl×Sl×Addr×Sl×Sl×Int×Unit)→WPq):(Sl×Sl×Addr×Sl×Sl×Int×Int×Unit)→World→Prop:=arZ (fun k6 s w=>q17Laid_holds.b6 R k5 k6 s.1 s.2.1 s.2.2.1 s.2.2.2.1 s.2.2.2.2.1 s.2.2.2.2.2.1 s.2.2.2.2.2.2.1 w)
def q17Laid_holds.b5(R:EPq)(k5:(Sl×Sl×Addr×Sl×Sl×Int×Unit)→WPq)(v1:Sl)(v2:Sl)(v3:Addr)(v7:Sl)(v10:Sl)(v14:Int)(w:World):Prop:=
 Cd (decide (v14<((v7.len:Nat):Int))) (q17Laid_holds.l6 R k5 (v1,v2,v3,v7,v10,v14,0,()) w) (R (.returned (.bool true)) w)
def q17Laid_holds.l5(R:EPq):(Sl×Sl×Addr×Sl×Sl×Int×Unit)→World→Prop:=arZ (fun k5 s w=>q17Laid_holds.b5 R k5 s.1 s.2.1 s.2.2.1 s.2.2.2.1 s.2.2.2.2.1 s.2.2.2.2.2.1 w)
def q17Laid_holds.b3(R:EPq)(k3:(Sl×Sl×Addr×Sl×Sl×Int×Unit)→WPq)(v1:Sl)(v2:Sl)(v3:Addr)(v7:Sl)(v10:Sl)(v11:Int)(w:World):Prop:=
 Cd (decide (v11<((v7.len:Nat):Int))) (Pu Tryz.prog (Instr.indexAt 30 (.slice v1.base v1.len v1.cap) (.int .i64 v11)) (.one (.at .addr)) (fun(x35:Addr) w36=>
 Rd Tryz.prog (Instr.loadAt 24 (.pointer (some x35))) (.one (.at .sl)) (fun(x37:Sl) w38=>
 Cd (((x37.len:Nat):Int)==0) (Pu Tryz.prog (Instr.indexAt 30 (.slice v7.base v7.len v7.cap) (.int .i64 v11)) (.one (.at .addr)) (fun(x39:Addr) w40=>
 Rd Tryz.prog (Instr.loadAt 24 (.pointer (some x39))) (.one (.at .sl)) (fun(x41:Sl) w42=>
 q17Laid_holds.j4 R k3 v1 v2 v3 v7 v10 v11 (decide (((x41.len:Nat):Int)>0)) w42) w40) w38) (q17Laid_holds.j4 R k3 v1 v2 v3 v7 v10 v11 false w38)) w36) w) (q17Laid_holds.l5 R (v1,v2,v3,v7,v10,0,()) w)
def q17Laid_holds.l3(R:EPq):(Sl×Sl×Addr×Sl×Sl×Int×Unit)→World→Prop:=arZ (fun k3 s w=>q17Laid_holds.b3 R k3 s.1 s.2.1 s.2.2.1 s.2.2.2.1 s.2.2.2.2.1 s.2.2.2.2.2.1 w)
def q17Laid_holds.b1(R:EPq)(k1:(Sl×Sl×Addr×Sl×Int×Unit)→WPq)(v1:Sl)(v2:Sl)(v3:Addr)(v7:Sl)(v8:Int)(w:World):Prop:=
 Cd (decide (v8<((v7.len:Nat):Int))) (Pu Tryz.prog (Instr.indexAt 30 (.slice v1.base v1.len v1.cap) (.int .i64 v8)) (.one (.at .addr)) (fun(x7:Addr) w8=>
 Rd Tryz.prog (Instr.loadAt 24 (.pointer (some x7))) (.one (.at .sl)) (fun(x9:Sl) w10=>
 Cd (((x9.len:Nat):Int)==0) (q17Laid_holds.l2 R k1 (v1,v2,v3,v7,v8,0,()) w10) (q17Laid_holds.j2 R k1 v1 v2 v3 v7 v8 w10)) w8) w) (Wr Tryz.prog (Instr.makeSlice 30 (.int .i64 ((v7.len:Nat):Int)) (.int .i64 ((v7.len:Nat):Int))) (.one (.at .sl)) (fun(x22:Sl) w23=>
 q17Laid_holds.l3 R (v1,v2,v3,v7,x22,0,()) w23) w)
def q17Laid_holds.l1(R:EPq):(Sl×Sl×Addr×Sl×Int×Unit)→World→Prop:=arZ (fun k1 s w=>q17Laid_holds.b1 R k1 s.1 s.2.1 s.2.2.1 s.2.2.2.1 s.2.2.2.2.1 w)
def q17Laid_holds.j1(R:EPq)(v1:Sl)(v2:Sl)(v3:Addr)(v7:Sl)(t35:Bool)(w:World):Prop:=
 Cd t35 (R (.returned (.bool false)) w) (q17Laid_holds.l1 R (v1,v2,v3,v7,0,()) w)
def q17Laid_holds.M(R:EPq)(v0:(Sl×Sl×Unit))(v1:Sl)(v2:Sl)(w:World):Prop:=
 Wr Tryz.prog (Instr.box 165 (.agg #[(.slice v0.1.base v0.1.len v0.1.cap),(.slice v0.2.1.base v0.2.1.len v0.2.1.cap)])) (.one (.at .addr)) (fun(x1:Addr) w2=>
 Rd Tryz.prog (Instr.loadAt 165 (.pointer (some x1))) (.one (.agg [.sl,.sl])) (fun x3 w4=>
 Cl Tryz.prog 103 #[(.agg #[(.slice x3.1.base x3.1.len x3.1.cap),(.slice x3.2.1.base x3.2.1.len x3.2.1.cap)])] (.one (.at .sl)) (fun(x5:Sl) w6=>
 Cl Tryz.prog 20 #[(.slice x5.base x5.len x5.cap),(.slice v2.base v2.len v2.cap)] (.one (.at .bool)) (fun(x109:Bool) w110=>
 Cd (!x109) (q17Laid_holds.j1 R v1 v2 x1 x5 true w110) (Rd Tryz.prog (Instr.loadAt 30 (.pointer (some (Addr.add x1 1)))) (.one (.at .sl)) (fun(x111:Sl) w112=>
 Pu Tryz.prog (Instr.indexAt 30 (.slice x111.base x111.len x111.cap) (.int .i64 ((x5.len:Nat):Int))) (.one (.at .addr)) (fun(x113:Addr) w114=>
 Rd Tryz.prog (Instr.loadAt 24 (.pointer (some x113))) (.one (.at .sl)) (fun(x115:Sl) w116=>
 Wr Tryz.prog (Instr.buildSlice 24 1 #[(0,(.int .u8 92))]) (.one (.at .sl)) (fun(x117:Sl) w118=>
 Cl Tryz.prog 38 #[(.slice x115.base x115.len x115.cap),(.slice x117.base x117.len x117.cap)] (.one (.at .bool)) (fun(x119:Bool) w120=>
 q17Laid_holds.j1 R v1 v2 x1 x5 (!x119) w120) w118) w116) w114) w112) w110)) w6) w4) w2) w
noncomputable def q17Laid_holds.ann(R:EPq):Ann:=
 .seq (.reg (.op 0 (.wr (.one (.at .addr))) (.op 1 .now (.done)))) (.seq (.reg (.op 0 (.rd (.one (.agg [.sl,.sl]))) (.op 1 (.cl (.one qcS)) (.op 2 .now (.done))))) (.seq (.join [(1,qcS),(2,qcS),(3,.at .addr),(7,qcS),(35,.at .bool)] (fun s w=>q17Laid_holds.j1 R s.1 s.2.1 s.2.2.1 s.2.2.2.1 s.2.2.2.2.1 w) (.reg (.op 0 .now (.op 1 .now (.op 2 (.cl (.one (.at .bool))) (.op 3 .now (.op 4 .now (.split 4 (.skip 5 (.skip 6 (.skip 7 (.skip 8 (.skip 9 (.skip 10 (.skip 11 (.skip 12 (.skip 13 (.op 14 .now (.done))))))))))) (.op 5 .now (.op 6 qrS (.op 7 .now (.op 8 .now (.op 9 qpA (.op 10 qrS (.op 11 (.wr (.one qcS)) (.op 12 (.cl (.one (.at .bool))) (.op 13 .now (.op 14 .now (.done)))))))))))))))))) (.cond (.seq (.reg qN1) (.leaf)) (.leaf))) (.seq (.seq (.reg qN1) (.block (.loop [(1,qcS),(2,qcS),(3,.at .addr),(7,qcS),(8,qcI)] (fun k1 s w=>q17Laid_holds.b1 R k1 s.1 s.2.1 s.2.2.1 s.2.2.2.1 s.2.2.2.2.1 w) (fun k1=>.seq (.seq (.reg qN4) (.cond (.leaf) (.leaf))) (.join [(1,qcS),(2,qcS),(3,.at .addr),(7,qcS),(8,qcI)] (fun s w=>q17Laid_holds.j2 R k1 s.1 s.2.1 s.2.2.1 s.2.2.2.1 s.2.2.2.2.1 w) (.block (.seq (.reg (.op 0 .now (.op 1 .now (.op 2 qpA (.op 3 qrS (.op 4 .now (.op 5 .now (.done)))))))) (.cond (.seq (.reg qN1) (.block (.loop [(1,qcS),(2,qcS),(3,.at .addr),(7,qcS),(8,qcI),(9,qcI)] (fun k2 s w=>q17Laid_holds.b2 R k1 k2 s.1 s.2.1 s.2.2.1 s.2.2.2.1 s.2.2.2.2.1 s.2.2.2.2.2.1 w) (fun k2=>.seq (.seq (.reg (.op 0 .now (.op 1 .now (.op 2 .now (.op 3 qpA (.op 4 qrS (.op 5 .now (.op 6 .now (.done))))))))) (.cond (.leaf) (.leaf))) (.seq (.block (.reg (.op 0 .now (.op 1 .now (.op 2 qpA (.op 3 qrS (.op 4 .now (.op 5 .now (.op 6 .now (.op 7 .now (.op 8 .now (.op 9 qpA (.op 10 .wu (.done)))))))))))))) (.reg qN3)))))) (.leaf)))) (.reg qN3)))))) (.seq (.reg (.op 0 .now (.op 1 .now (.op 2 (.wr (.one qcS)) (.op 3 .now (.done)))))) (.seq (.seq (.reg qN1) (.block (.loop [(1,qcS),(2,qcS),(3,.at .addr),(7,qcS),(10,qcS),(11,qcI)] (fun k3 s w=>q17Laid_holds.b3 R k3 s.1 s.2.1 s.2.2.1 s.2.2.2.1 s.2.2.2.2.1 s.2.2.2.2.2.1 w) (fun k3=>.seq (.seq (.reg qN4) (.cond (.leaf) (.leaf))) (.join [(1,qcS),(2,qcS),(3,.at .addr),(7,qcS),(10,qcS),(11,qcI)] (fun s w=>q17Laid_holds.j3 R k3 s.1 s.2.1 s.2.2.1 s.2.2.2.1 s.2.2.2.2.1 s.2.2.2.2.2.1 w) (.block (.join [(1,qcS),(2,qcS),(3,.at .addr),(7,qcS),(10,qcS),(11,qcI),(89,.at .bool)] (fun s w=>q17Laid_holds.j4 R k3 s.1 s.2.1 s.2.2.1 s.2.2.2.1 s.2.2.2.2.1 s.2.2.2.2.2.1 s.2.2.2.2.2.2.1 w) (.reg (.op 0 .now (.op 1 .now (.op 2 qpA (.op 3 qrS (.op 4 .now (.op 5 .now (.op 6 .now (.split 6 (.op 7 .now (.op 8 .now (.op 9 qpA (.op 10 qrS (.op 11 .now (.op 12 .now (.op 13 .now (.done)))))))) (.skip 7 (.skip 8 (.skip 9 (.skip 10 (.skip 11 (.skip 12 (.op 13 .now (.done))))))))))))))))) (.cond (.seq (.reg (.op 0 .now (.op 1 .now (.op 2 qpA (.op 3 qrS (.op 4 .now (.done))))))) (.seq (.seq (.reg qN1) (.block (.loop [(1,qcS),(2,qcS),(3,.at .addr),(7,qcS),(10,qcS),(11,qcI),(12,qcS),(13,qcI)] (fun k4 s w=>q17Laid_holds.b4 R k3 k4 s.1 s.2.1 s.2.2.1 s.2.2.2.1 s.2.2.2.2.1 s.2.2.2.2.2.1 s.2.2.2.2.2.2.1 s.2.2.2.2.2.2.2.1 w) (fun k4=>.seq (.seq (.reg qN2) (.cond (.leaf) (.leaf))) (.seq (.block (.reg (.op 0 .now (.op 1 .now (.op 2 .now (.op 3 .now (.op 4 .now (.op 5 (.wr (.one qcS)) (.op 6 (.wr (.one qcS)) (.op 7 .now (.done))))))))))) (.reg qN3)))))) (.reg (.op 0 .now (.op 1 .now (.op 2 .now (.op 3 qpA (.op 4 .wu (.done))))))))) (.leaf)))) (.reg qN3)))))) (.seq (.seq (.reg qN1) (.block (.loop [(1,qcS),(2,qcS),(3,.at .addr),(7,qcS),(10,qcS),(14,qcI)] (fun k5 s w=>q17Laid_holds.b5 R k5 s.1 s.2.1 s.2.2.1 s.2.2.2.1 s.2.2.2.2.1 s.2.2.2.2.2.1 w) (fun k5=>.seq (.seq (.reg qN4) (.cond (.leaf) (.leaf))) (.seq (.block (.seq (.seq (.reg qN1) (.block (.loop [(1,qcS),(2,qcS),(3,.at .addr),(7,qcS),(10,qcS),(14,qcI),(15,qcI)] (fun k6 s w=>q17Laid_holds.b6 R k5 k6 s.1 s.2.1 s.2.2.1 s.2.2.2.1 s.2.2.2.2.1 s.2.2.2.2.2.1 s.2.2.2.2.2.2.1 w) (fun k6=>.seq (.seq (.reg (.op 0 .now (.op 1 .now (.op 2 .now (.op 3 qpA (.op 4 qrS (.op 5 .now (.op 6 .now (.done))))))))) (.cond (.leaf) (.leaf))) (.seq (.block (.join [(1,qcS),(2,qcS),(3,.at .addr),(7,qcS),(10,qcS),(14,qcI),(15,qcI),(167,.at .bool)] (fun s w=>q17Laid_holds.j5 R k5 k6 s.1 s.2.1 s.2.2.1 s.2.2.2.1 s.2.2.2.2.1 s.2.2.2.2.2.1 s.2.2.2.2.2.2.1 s.2.2.2.2.2.2.2.1 w) (.reg (.op 0 .now (.op 1 .now (.op 2 .now (.op 3 qpA (.op 4 qrS (.op 5 .now (.op 6 .now (.op 7 .now (.split 7 (.op 8 .now (.op 9 .now (.op 10 qpA (.op 11 qrS (.op 12 .now (.op 13 qpA (.op 14 qrB (.op 15 .now (.op 16 .now (.op 17 .now (.op 18 .now (.op 19 .now (.op 20 .now (.op 21 .now (.split 21 (.skip 22 (.skip 23 (.skip 24 (.skip 25 (.skip 26 (.skip 27 (.skip 28 (.skip 29 (.skip 30 (.skip 31 (.skip 32 (.skip 33 (.skip 34 (.skip 35 (.skip 36 (.skip 37 (.skip 38 (.skip 39 (.skip 40 (.skip 41 (.skip 42 (.op 43 .now (.done))))))))))))))))))))))) (.op 22 .now (.op 23 .now (.op 24 .now (.op 25 qpA (.op 26 qrS (.op 27 .now (.op 28 .now (.op 29 .now (.split 29 (.op 30 .now (.op 31 .now (.op 32 qpA (.op 33 qrS (.op 34 .now (.op 35 qpA (.op 36 qrB (.op 37 .now (.op 38 .now (.op 39 .now (.op 40 .now (.op 41 .now (.op 42 .now (.op 43 .now (.done))))))))))))))) (.skip 30 (.skip 31 (.skip 32 (.skip 33 (.skip 34 (.skip 35 (.skip 36 (.skip 37 (.skip 38 (.skip 39 (.skip 40 (.skip 41 (.op 42 .now (.op 43 .now (.done))))))))))))))))))))))))))))))))))))))) (.skip 8 (.skip 9 (.skip 10 (.skip 11 (.skip 12 (.skip 13 (.skip 14 (.skip 15 (.skip 16 (.skip 17 (.skip 18 (.skip 19 (.op 20 .now (.op 21 .now (.op 22 .now (.op 23 .now (.op 24 .now (.op 25 qpA (.op 26 qrS (.op 27 .now (.op 28 .now (.op 29 .now (.split 29 (.op 30 .now (.op 31 .now (.op 32 qpA (.op 33 qrS (.op 34 .now (.op 35 qpA (.op 36 qrB (.op 37 .now (.op 38 .now (.op 39 .now (.op 40 .now (.op 41 .now (.op 42 .now (.op 43 .now (.done))))))))))))))) (.skip 30 (.skip 31 (.skip 32 (.skip 33 (.skip 34 (.skip 35 (.skip 36 (.skip 37 (.skip 38 (.skip 39 (.skip 40 (.skip 41 (.op 42 .now (.op 43 .now (.done)))))))))))))))))))))))))))))))))))))))))))))))) (.cond (.seq (.reg qN1) (.leaf)) (.leaf)))) (.reg qN3)))))) (.seq (.reg (.op 0 .now (.op 1 qrS (.op 2 .now (.op 3 qpA (.op 4 qrS (.op 5 .now (.done)))))))) (.seq (.reg (.op 0 .now (.op 1 .now (.op 2 qpA (.op 3 qrS (.op 4 .now (.op 5 .now (.done)))))))) (.seq (.reg qN1) (.block (.loop [(1,qcS),(2,qcS),(3,.at .addr),(7,qcS),(10,qcS),(14,qcI),(16,qcS),(17,qcI),(18,qcI)] (fun k7 s w=>q17Laid_holds.b7 R k5 k7 s.1 s.2.1 s.2.2.1 s.2.2.2.1 s.2.2.2.2.1 s.2.2.2.2.2.1 s.2.2.2.2.2.2.1 s.2.2.2.2.2.2.2.1 s.2.2.2.2.2.2.2.2.1 w) (fun k7=>.seq (.seq (.reg qN4) (.cond (.leaf) (.leaf))) (.join [(1,qcS),(2,qcS),(3,.at .addr),(7,qcS),(10,qcS),(14,qcI),(16,qcS),(17,qcI),(18,qcI)] (fun s w=>q17Laid_holds.j6 R k5 k7 s.1 s.2.1 s.2.2.1 s.2.2.2.1 s.2.2.2.2.1 s.2.2.2.2.2.1 s.2.2.2.2.2.2.1 s.2.2.2.2.2.2.2.1 s.2.2.2.2.2.2.2.2.1 w) (.block (.join [(1,qcS),(2,qcS),(3,.at .addr),(7,qcS),(10,qcS),(14,qcI),(16,qcS),(17,qcI),(18,qcI),(191,.at .bool)] (fun s w=>q17Laid_holds.j7 R k5 k7 s.1 s.2.1 s.2.2.1 s.2.2.2.1 s.2.2.2.2.1 s.2.2.2.2.2.1 s.2.2.2.2.2.2.1 s.2.2.2.2.2.2.2.1 s.2.2.2.2.2.2.2.2.1 s.2.2.2.2.2.2.2.2.2.1 w) (.reg (.op 0 .now (.op 1 .now (.op 2 .now (.split 2 (.op 3 .now (.op 4 .now (.op 5 .now (.op 6 .now (.op 7 .now (.done)))))) (.skip 3 (.skip 4 (.skip 5 (.skip 6 (.op 7 .now (.done))))))))))) (.cond (.seq (.regQ (.op 0 .now (.op 1 .now (.op 2 qpA (.op 3 qrB (.op 4 .now (.op 5 .now (.op 6 qpA (.op 7 qrS (.op 8 .now (.op 9 .now (.op 10 qpA (.op 11 qrB (.op 12 .now (.done))))))))))))))) (.cond (.seq (.reg qN1) (.leaf)) (.leaf))) (.seq (.reg (.op 0 .now (.op 1 .now (.op 2 qpA (.op 3 qrB (.op 4 .now (.done))))))) (.cond (.seq (.reg qN1) (.leaf)) (.leaf)))))) (.reg qN3)))))))))) (.reg qN3)))))) (.seq (.reg qN1) (.leaf))))))))
theorem q17Laid_holds.run(R:EPq)(v0:(Sl×Sl×Unit))(v1:Sl)(v2:Sl)(w:World)(h:q17Laid_holds.M R v0 v1 v2 w):Calls Tryz.prog 107 #[(.agg #[(.slice v0.1.base v0.1.len v0.1.cap),(.slice v0.2.1.base v0.2.1.len v0.2.1.cap)]),(.slice v1.base v1.len v1.cap),(.slice v2.base v2.len v2.cap)] w R:=by
 refine aaZ aSZ Tryz.func107 (c:=q17Laid_holds.body) (by kernel_rfl) [.at .bool] (q17Laid_holds.ann R) 210 Tryz.ntmps107 [.tmp 6] (by kernel_rfl) (Nat.le_of_ble_eq_true (by kernel_rfl)) ?_ ?_
 ·exact⟨tv,⟨tv,⟨⟨fun s w=>mq,tv,⟨⟨tv,tv⟩,tv⟩⟩,⟨⟨tv,(fun k1=>⟨fun s w=>mq,⟨⟨tv,⟨tv,tv⟩⟩,⟨fun s w=>mq,⟨tv,⟨⟨tv,(fun k2=>⟨fun s w=>mq,⟨⟨tv,⟨tv,tv⟩⟩,⟨tv,tv⟩⟩⟩)⟩,tv⟩⟩,tv⟩⟩⟩)⟩,⟨tv,⟨⟨tv,(fun k3=>⟨fun s w=>mq,⟨⟨tv,⟨tv,tv⟩⟩,⟨fun s w=>mq,⟨fun s w=>mq,tv,⟨⟨tv,⟨⟨tv,(fun k4=>⟨fun s w=>mq,⟨⟨tv,⟨tv,tv⟩⟩,⟨tv,tv⟩⟩⟩)⟩,tv⟩⟩,tv⟩⟩,tv⟩⟩⟩)⟩,⟨⟨tv,(fun k5=>⟨fun s w=>mq,⟨⟨tv,⟨tv,tv⟩⟩,⟨⟨⟨tv,(fun k6=>⟨fun s w=>mq,⟨⟨tv,⟨tv,tv⟩⟩,⟨⟨fun s w=>mq,tv,⟨⟨tv,tv⟩,tv⟩⟩,tv⟩⟩⟩)⟩,⟨tv,⟨tv,⟨tv,(fun k7=>⟨fun s w=>mq,⟨⟨tv,⟨tv,tv⟩⟩,⟨fun s w=>mq,⟨fun s w=>mq,tv,⟨⟨(show Region.noSelect _=true by kernel_rfl),⟨⟨tv,tv⟩,tv⟩⟩,⟨tv,⟨⟨tv,tv⟩,tv⟩⟩⟩⟩,tv⟩⟩⟩)⟩⟩⟩⟩,tv⟩⟩⟩)⟩,⟨tv,tv⟩⟩⟩⟩⟩⟩⟩⟩
 ·exact Eq.mp (show q17Laid_holds.M R v0 v1 v2 w=_ by kernel_rfl) h
noncomputable def q17writes.body:Code:=(Tryz.f78.body).getD .skip
def q17writes.j1(R:EPq)(v5:Addr)(v7:Addr)(v8:Addr)(v11:Int)(v12:Sl)(v13:Int)(w:World):Prop:=
 Cd (v11==v13) (Rd Tryz.prog (Instr.loadAt 165 (.pointer (some v7))) (.one (.agg [.sl,.sl])) (fun x34 w35=>
 Rd Tryz.prog (Instr.loadAt 30 (.pointer (some (Addr.add v5 1)))) (.one (.at .sl)) (fun(x36:Sl) w37=>
 Cl Tryz.prog 107 #[(.agg #[(.slice x34.1.base x34.1.len x34.1.cap),(.slice x34.2.1.base x34.2.1.len x34.2.1.cap)]),(.slice x36.base x36.len x36.cap),(.slice v12.base v12.len v12.cap)] (.one (.at .bool)) (fun(x38:Bool) w39=>
 Cd x38 (Rd Tryz.prog (Instr.loadAt 165 (.pointer (some v8))) (.one (.agg [.sl,.sl])) (fun x40 w41=>
 Rd Tryz.prog (Instr.loadAt 30 (.pointer (some (Addr.add v5 2)))) (.one (.at .sl)) (fun(x42:Sl) w43=>
 Rd Tryz.prog (Instr.loadAt 30 (.pointer (some (Addr.add v5 2)))) (.one (.at .sl)) (fun(x44:Sl) w45=>
 Cl Tryz.prog 107 #[(.agg #[(.slice x40.1.base x40.1.len x40.1.cap),(.slice x40.2.1.base x40.2.1.len x40.2.1.cap)]),(.slice x42.base x42.len x42.cap),(.slice x44.base x44.len x44.cap)] (.one (.at .bool)) (fun(x46:Bool) w47=>
 R (.returned (.bool x46)) w47) w45) w43) w41) w39) (R (.returned (.bool false)) w39)) w37) w35) w) (R (.returned (.bool false)) w)
def q17writes.j2(R:EPq)(v1:(Option Addr))(v5:Addr)(v7:Addr)(v8:Addr)(v11:Int)(v12:Sl)(v13:Int)(w:World):Prop:=
 Pu Tryz.prog (do eqGuard .neq 96 (.tmp 122) (.const (.pointer none)) (.pointer v1) (.pointer none);binOp .neq 96 (.pointer v1) (.pointer none)) (.one (.at .bool)) (fun(x102:Bool) w103=>
 Cd x102 (Rd Tryz.prog (Instr.loadAt 30 (.pointer (some (Addr.add v5 1)))) (.one (.at .sl)) (fun(x104:Sl) w105=>
 Rd Tryz.prog (Instr.loadAt 30 (.pointer (some (Addr.add v5 2)))) (.one (.at .sl)) (fun(x106:Sl) w107=>
 Rd Tryz.prog (Instr.loadAt 3 (.pointer (some (Addr.add v5 3)))) (.one (.at (.int .i64))) (fun(x108:Int) w109=>
 Rd Tryz.prog (Instr.loadAt 3 (.pointer (some (Addr.add v5 4)))) (.one (.at (.int .i64))) (fun(x110:Int) w111=>
 Cl Tryz.prog 106 #[(.pointer v1),(.slice x104.base x104.len x104.cap),(.slice x106.base x106.len x106.cap),(.int .i64 x108),(.int .i64 x110),(.bool false)] (.tup [.at .sl,.at (.int .i64)]) (fun x112 w113=>
 q17writes.j1 R v5 v7 v8 v11 x112.1 x112.2.1 w113) w111) w109) w107) w105) w103) (q17writes.j1 R v5 v7 v8 v11 v12 v13 w103)) w
def q17writes.M(R:EPq)(v0:(Option Addr))(v1:(Option Addr))(v2:(Int×Sl×Sl×Int×Int×Sl×Sl×Sl×Bool×Unit))(w:World):Prop:=
 Wr Tryz.prog (Instr.box 100 (.agg #[(.int .i64 v2.1),(.slice v2.2.1.base v2.2.1.len v2.2.1.cap),(.slice v2.2.2.1.base v2.2.2.1.len v2.2.2.1.cap),(.int .i64 v2.2.2.2.1),(.int .i64 v2.2.2.2.2.1),(.slice v2.2.2.2.2.2.1.base v2.2.2.2.2.2.1.len v2.2.2.2.2.2.1.cap),(.slice v2.2.2.2.2.2.2.1.base v2.2.2.2.2.2.2.1.len v2.2.2.2.2.2.2.1.cap),(.slice v2.2.2.2.2.2.2.2.1.base v2.2.2.2.2.2.2.2.1.len v2.2.2.2.2.2.2.2.1.cap),(.bool v2.2.2.2.2.2.2.2.2.1)])) (.one (.at .addr)) (fun(x1:Addr) w2=>
 Rd Tryz.prog (Instr.loadAt 30 (.pointer (some (Addr.add x1 1)))) (.one (.at .sl)) (fun(x3:Sl) w4=>
 Rd Tryz.prog (Instr.loadAt 4 (.pointer (some (Addr.add x1 8)))) (.one (.at .bool)) (fun(x5:Bool) w6=>
 Cl Tryz.prog 102 #[(.slice x3.base x3.len x3.cap),(.bool x5)] (.one (.agg [.sl,.sl])) (fun x7 w8=>
 Wr Tryz.prog (Instr.alloc 165 true (.tuple #[])) (.one (.at .addr)) (fun(x9:Addr) w10=>
 Wu Tryz.prog (Instr.storeAt 165 (.pointer (some x9)) (.agg #[(.slice x7.1.base x7.1.len x7.1.cap),(.slice x7.2.1.base x7.2.1.len x7.2.1.cap)])) (fun w11=>
 Rd Tryz.prog (Instr.loadAt 30 (.pointer (some (Addr.add x1 2)))) (.one (.at .sl)) (fun(x12:Sl) w13=>
 Rd Tryz.prog (Instr.loadAt 4 (.pointer (some (Addr.add x1 8)))) (.one (.at .bool)) (fun(x14:Bool) w15=>
 Cl Tryz.prog 102 #[(.slice x12.base x12.len x12.cap),(.bool x14)] (.one (.agg [.sl,.sl])) (fun x16 w17=>
 Wr Tryz.prog (Instr.alloc 165 true (.tuple #[])) (.one (.at .addr)) (fun(x18:Addr) w19=>
 Wu Tryz.prog (Instr.storeAt 165 (.pointer (some x18)) (.agg #[(.slice x16.1.base x16.1.len x16.1.cap),(.slice x16.2.1.base x16.2.1.len x16.2.1.cap)])) (fun w20=>
 Rd Tryz.prog (Instr.loadAt 165 (.pointer (some x9))) (.one (.agg [.sl,.sl])) (fun x21 w22=>
 Cl Tryz.prog 103 #[(.agg #[(.slice x21.1.base x21.1.len x21.1.cap),(.slice x21.2.1.base x21.2.1.len x21.2.1.cap)])] (.one (.at .sl)) (fun(x23:Sl) w24=>
 Rd Tryz.prog (Instr.loadAt 3 (.pointer (some (Addr.add x1 3)))) (.one (.at (.int .i64))) (fun(x25:Int) w26=>
 Rd Tryz.prog (Instr.loadAt 3 (.pointer (some (Addr.add x1 4)))) (.one (.at (.int .i64))) (fun(x27:Int) w28=>
 Wr Tryz.prog (Instr.alloc 41 true (.tuple #[])) (.one (.at .addr)) (fun(x29:Addr) w30=>
 Wu Tryz.prog (Instr.storeAt 41 (.pointer (some x29)) (.agg #[(.int .i64 x25),(.int .i64 x27)])) (fun w31=>
 Rd Tryz.prog (Instr.loadAt 30 (.pointer (some (Addr.add x1 1)))) (.one (.at .sl)) (fun(x32:Sl) w33=>
 Rd Tryz.prog (Instr.loadAt 3 (.pointer (some x1))) (.one (.at (.int .i64))) (fun(x48:Int) w49=>
 Cd (x48==1) (Cl Tryz.prog 13 #[(.pointer v0),(.slice x23.base x23.len x23.cap)] (.one (.at (.int .i64))) (fun(x50:Int) w51=>
 Pu Tryz.prog (do eqGuard .neq 96 (.tmp 40) (.const (.pointer none)) (.pointer v1) (.pointer none);binOp .neq 96 (.pointer v1) (.pointer none)) (.one (.at .bool)) (fun(x52:Bool) w53=>
 Cd x52 (Rd Tryz.prog (Instr.loadAt 30 (.pointer (some (Addr.add x1 1)))) (.one (.at .sl)) (fun(x54:Sl) w55=>
 Cl Tryz.prog 104 #[(.pointer v1),(.slice x54.base x54.len x54.cap),(.int .i64 0),(.int .i64 0),(.bool true)] (.tup [.at .sl,.at (.int .i64)]) (fun x56 w57=>
 q17writes.j1 R x1 x9 x18 x50 x56.1 x56.2.1 w57) w55) w53) (q17writes.j1 R x1 x9 x18 x50 x32 1 w53)) w51) w49) (Cd (x48==2) (Rd Tryz.prog (Instr.loadAt 41 (.pointer (some x29))) (.one (.agg [.int .i64,.int .i64])) (fun x58 w59=>
 Cl Tryz.prog 28 #[(.pointer v0),(.slice x23.base x23.len x23.cap),(.agg #[(.int .i64 x58.1),(.int .i64 x58.2.1)])] (.one (.at (.int .i64))) (fun(x60:Int) w61=>
 Pu Tryz.prog (do eqGuard .neq 96 (.tmp 55) (.const (.pointer none)) (.pointer v1) (.pointer none);binOp .neq 96 (.pointer v1) (.pointer none)) (.one (.at .bool)) (fun(x62:Bool) w63=>
 Cd x62 (Rd Tryz.prog (Instr.loadAt 30 (.pointer (some (Addr.add x1 1)))) (.one (.at .sl)) (fun(x64:Sl) w65=>
 Rd Tryz.prog (Instr.loadAt 3 (.pointer (some (Addr.add x1 3)))) (.one (.at (.int .i64))) (fun(x66:Int) w67=>
 Rd Tryz.prog (Instr.loadAt 3 (.pointer (some (Addr.add x1 4)))) (.one (.at (.int .i64))) (fun(x68:Int) w69=>
 Cl Tryz.prog 104 #[(.pointer v1),(.slice x64.base x64.len x64.cap),(.int .i64 x66),(.int .i64 x68),(.bool false)] (.tup [.at .sl,.at (.int .i64)]) (fun x70 w71=>
 q17writes.j1 R x1 x9 x18 x60 x70.1 x70.2.1 w71) w69) w67) w65) w63) (q17writes.j1 R x1 x9 x18 x60 x32 1 w63)) w61) w59) w49) (Cd (x48==5) (Cl Tryz.prog 21 #[(.pointer v0),(.slice x23.base x23.len x23.cap)] (.one (.at (.int .i64))) (fun(x72:Int) w73=>
 Pu Tryz.prog (do eqGuard .neq 96 (.tmp 73) (.const (.pointer none)) (.pointer v1) (.pointer none);binOp .neq 96 (.pointer v1) (.pointer none)) (.one (.at .bool)) (fun(x74:Bool) w75=>
 Cd x74 (Rd Tryz.prog (Instr.loadAt 30 (.pointer (some (Addr.add x1 1)))) (.one (.at .sl)) (fun(x76:Sl) w77=>
 Cl Tryz.prog 105 #[(.pointer v1),(.slice x76.base x76.len x76.cap),(.bool false)] (.tup [.at .sl,.at (.int .i64)]) (fun x78 w79=>
 q17writes.j1 R x1 x9 x18 x72 x78.1 x78.2.1 w79) w77) w75) (q17writes.j1 R x1 x9 x18 x72 x32 1 w75)) w73) w49) (Cd (x48==6) (Cl Tryz.prog 27 #[(.pointer v0),(.slice x23.base x23.len x23.cap)] (.one (.at (.int .i64))) (fun(x80:Int) w81=>
 Pu Tryz.prog (do eqGuard .neq 96 (.tmp 87) (.const (.pointer none)) (.pointer v1) (.pointer none);binOp .neq 96 (.pointer v1) (.pointer none)) (.one (.at .bool)) (fun(x82:Bool) w83=>
 Cd x82 (Rd Tryz.prog (Instr.loadAt 30 (.pointer (some (Addr.add x1 1)))) (.one (.at .sl)) (fun(x84:Sl) w85=>
 Cl Tryz.prog 105 #[(.pointer v1),(.slice x84.base x84.len x84.cap),(.bool true)] (.tup [.at .sl,.at (.int .i64)]) (fun x86 w87=>
 q17writes.j1 R x1 x9 x18 x80 x86.1 x86.2.1 w87) w85) w83) (q17writes.j1 R x1 x9 x18 x80 x32 1 w83)) w81) w49) (Cd (x48==7) (Rd Tryz.prog (Instr.loadAt 165 (.pointer (some x18))) (.one (.agg [.sl,.sl])) (fun x88 w89=>
 Cl Tryz.prog 103 #[(.agg #[(.slice x88.1.base x88.1.len x88.1.cap),(.slice x88.2.1.base x88.2.1.len x88.2.1.cap)])] (.one (.at .sl)) (fun(x90:Sl) w91=>
 Cl Tryz.prog 19 #[(.pointer v0),(.slice x23.base x23.len x23.cap),(.slice x90.base x90.len x90.cap)] (.one (.at (.int .i64))) (fun(x92:Int) w93=>
 Pu Tryz.prog (do eqGuard .neq 96 (.tmp 103) (.const (.pointer none)) (.pointer v1) (.pointer none);binOp .neq 96 (.pointer v1) (.pointer none)) (.one (.at .bool)) (fun(x94:Bool) w95=>
 Cd x94 (Rd Tryz.prog (Instr.loadAt 30 (.pointer (some (Addr.add x1 1)))) (.one (.at .sl)) (fun(x96:Sl) w97=>
 Rd Tryz.prog (Instr.loadAt 30 (.pointer (some (Addr.add x1 2)))) (.one (.at .sl)) (fun(x98:Sl) w99=>
 Cl Tryz.prog 106 #[(.pointer v1),(.slice x96.base x96.len x96.cap),(.slice x98.base x98.len x98.cap),(.int .i64 0),(.int .i64 0),(.bool true)] (.tup [.at .sl,.at (.int .i64)]) (fun x100 w101=>
 q17writes.j1 R x1 x9 x18 x92 x100.1 x100.2.1 w101) w99) w97) w95) (q17writes.j1 R x1 x9 x18 x92 x32 1 w95)) w93) w91) w89) w49) (Cd (x48==8) (Held w49.drew (fun S114=>RdS Tryz.prog S114 (Instr.loadAt 165 (.pointer (some x18))) (.one (.agg [.sl,.sl])) (fun x115 w116=>
 RdS Tryz.prog S114 (Instr.loadAt 41 (.pointer (some x29))) (.one (.agg [.int .i64,.int .i64])) (fun x117 w118=>
 Cl Tryz.prog 103 #[(.agg #[(.slice x115.1.base x115.1.len x115.1.cap),(.slice x115.2.1.base x115.2.1.len x115.2.1.cap)])] (.one (.at .sl)) (fun(x119:Sl) w120=>
 S114 w120∧(Cl Tryz.prog 29 #[(.pointer v0),(.slice x23.base x23.len x23.cap),(.slice x119.base x119.len x119.cap),(.agg #[(.int .i64 x117.1),(.int .i64 x117.2.1)])] (.one (.at (.int .i64))) (fun(x121:Int) w122=>
 S114 w122∧(q17writes.j2 R v1 x1 x9 x18 x121 x32 1 w122)) w120)) w118) w116) w49.drew)) (q17writes.j1 R x1 x9 x18 0 x32 1 w49))))))) w33) w31) w30) w28) w26) w24) w22) w20) w19) w17) w15) w13) w11) w10) w8) w6) w4) w2) w
noncomputable def q17writes.ann(R:EPq):Ann:=
 .seq (.reg (.op 0 (.wr (.one (.at .addr))) (.op 1 .now (.done)))) (.seq (.reg (.op 0 .now (.op 1 qrS (.op 2 .now (.op 3 (.rd (.one (.at .bool))) (.op 4 (.cl (.one (.agg [.sl,.sl]))) (.op 5 (.wr (.one (.at .addr))) (.op 6 .wu (.done))))))))) (.seq (.reg (.op 0 .now (.op 1 qrS (.op 2 .now (.op 3 (.rd (.one (.at .bool))) (.op 4 (.cl (.one (.agg [.sl,.sl]))) (.op 5 (.wr (.one (.at .addr))) (.op 6 .wu (.done))))))))) (.seq (.reg (.op 0 (.rd (.one (.agg [.sl,.sl]))) (.op 1 (.cl (.one qcS)) (.op 2 .now (.done))))) (.seq (.reg (.op 0 .now (.op 1 (.rd (.one qcI)) (.op 2 .now (.op 3 (.rd (.one qcI)) (.op 4 .now (.op 5 (.wr (.one (.at .addr))) (.op 6 .wu (.done))))))))) (.seq (.reg qN1) (.seq (.reg (.op 0 .now (.op 1 qrS (.op 2 .now (.done))))) (.seq (.reg qN1) (.join [(5,.at .addr),(7,.at .addr),(8,.at .addr),(11,qcI),(12,qcS),(13,qcI)] (fun s w=>q17writes.j1 R s.1 s.2.1 s.2.2.1 s.2.2.2.1 s.2.2.2.2.1 s.2.2.2.2.2.1 w) (.seq (.reg (.op 0 .now (.op 1 (.rd (.one qcI)) (.done)))) (.block (.seq (.reg qN2) (.cond (.seq (.reg (.op 0 .now (.op 1 .now (.op 2 (.cl (.one qcI)) (.op 3 .now (.done)))))) (.seq (.reg (.op 0 .now (.op 1 (.pu (.one (.at .bool))) (.done)))) (.cond (.reg (.op 0 .now (.op 1 .now (.op 2 qrS (.op 3 (.cl (.tup [.at .sl,.at (.int .i64)])) (.op 4 .now (.op 5 .now (.op 6 .now (.op 7 .now (.op 8 .now (.done))))))))))) (.leaf)))) (.seq (.reg qN2) (.cond (.seq (.reg (.op 0 .now (.op 1 .now (.op 2 (.rd (.one (.agg [.int .i64,.int .i64]))) (.op 3 (.cl (.one qcI)) (.op 4 .now (.done))))))) (.seq (.reg (.op 0 .now (.op 1 (.pu (.one (.at .bool))) (.done)))) (.cond (.reg (.op 0 .now (.op 1 .now (.op 2 qrS (.op 3 .now (.op 4 (.rd (.one qcI)) (.op 5 .now (.op 6 (.rd (.one qcI)) (.op 7 (.cl (.tup [.at .sl,.at (.int .i64)])) (.op 8 .now (.op 9 .now (.op 10 .now (.op 11 .now (.op 12 .now (.done))))))))))))))) (.leaf)))) (.seq (.reg qN2) (.cond (.seq (.reg (.op 0 .now (.op 1 .now (.op 2 (.cl (.one qcI)) (.op 3 .now (.done)))))) (.seq (.reg (.op 0 .now (.op 1 (.pu (.one (.at .bool))) (.done)))) (.cond (.reg (.op 0 .now (.op 1 .now (.op 2 qrS (.op 3 (.cl (.tup [.at .sl,.at (.int .i64)])) (.op 4 .now (.op 5 .now (.op 6 .now (.op 7 .now (.op 8 .now (.done))))))))))) (.leaf)))) (.seq (.reg qN2) (.cond (.seq (.reg (.op 0 .now (.op 1 .now (.op 2 (.cl (.one qcI)) (.op 3 .now (.done)))))) (.seq (.reg (.op 0 .now (.op 1 (.pu (.one (.at .bool))) (.done)))) (.cond (.reg (.op 0 .now (.op 1 .now (.op 2 qrS (.op 3 (.cl (.tup [.at .sl,.at (.int .i64)])) (.op 4 .now (.op 5 .now (.op 6 .now (.op 7 .now (.op 8 .now (.done))))))))))) (.leaf)))) (.seq (.reg qN2) (.cond (.seq (.reg (.op 0 .now (.op 1 .now (.op 2 (.rd (.one (.agg [.sl,.sl]))) (.op 3 (.cl (.one qcS)) (.op 4 (.cl (.one qcI)) (.op 5 .now (.done)))))))) (.seq (.reg (.op 0 .now (.op 1 (.pu (.one (.at .bool))) (.done)))) (.cond (.reg (.op 0 .now (.op 1 .now (.op 2 qrS (.op 3 .now (.op 4 qrS (.op 5 (.cl (.tup [.at .sl,.at (.int .i64)])) (.op 6 .now (.op 7 .now (.op 8 .now (.op 9 .now (.op 10 .now (.done))))))))))))) (.leaf)))) (.seq (.reg qN2) (.cond (.join [(1,qcP),(5,.at .addr),(7,.at .addr),(8,.at .addr),(11,qcI),(12,qcS),(13,qcI)] (fun s w=>q17writes.j2 R s.1 s.2.1 s.2.2.1 s.2.2.2.1 s.2.2.2.2.1 s.2.2.2.2.2.1 s.2.2.2.2.2.2.1 w) (.regD (.op 0 .now (.op 1 .now (.op 2 (.rd (.one (.agg [.sl,.sl]))) (.op 4 (.rd (.one (.agg [.int .i64,.int .i64]))) (.op 3 (.cl (.one qcS)) (.op 5 (.cl (.one qcI)) (.op 6 .now (.done))))))))) (.seq (.reg (.op 0 .now (.op 1 (.pu (.one (.at .bool))) (.done)))) (.cond (.reg (.op 0 .now (.op 1 .now (.op 2 qrS (.op 3 .now (.op 4 qrS (.op 5 .now (.op 6 (.rd (.one qcI)) (.op 7 .now (.op 8 (.rd (.one qcI)) (.op 9 (.cl (.tup [.at .sl,.at (.int .i64)])) (.op 10 .now (.op 11 .now (.op 12 .now (.op 13 .now (.op 14 .now (.done))))))))))))))))) (.leaf)))) (.leaf))))))))))))))) (.seq (.reg (.op 0 .now (.op 1 .now (.op 2 .now (.op 3 .now (.split 3 (.op 4 (.rd (.one (.agg [.sl,.sl]))) (.op 5 .now (.op 6 qrS (.op 7 .now (.op 8 (.cl (.one (.at .bool))) (.op 9 .now (.op 10 .now (.split 10 (.op 11 (.rd (.one (.agg [.sl,.sl]))) (.op 12 .now (.op 13 qrS (.op 14 .now (.op 15 qrS (.op 16 (.cl (.one (.at .bool))) (.op 17 .now (.op 18 .now (.done))))))))) (.skip 11 (.skip 12 (.skip 13 (.skip 14 (.skip 15 (.skip 16 (.op 17 .now (.op 18 .now (.done))))))))))))))))) (.skip 4 (.skip 5 (.skip 6 (.skip 7 (.skip 8 (.op 9 .now (.op 10 .now (.skip 11 (.skip 12 (.skip 13 (.skip 14 (.skip 15 (.skip 16 (.op 17 .now (.op 18 .now (.done)))))))))))))))))))))) (.leaf))))))))))
theorem q17writes.run(R:EPq)(v0:(Option Addr))(v1:(Option Addr))(v2:(Int×Sl×Sl×Int×Int×Sl×Sl×Sl×Bool×Unit))(w:World)(h:q17writes.M R v0 v1 v2 w):Calls Tryz.prog 78 #[(.pointer v0),(.pointer v1),(.agg #[(.int .i64 v2.1),(.slice v2.2.1.base v2.2.1.len v2.2.1.cap),(.slice v2.2.2.1.base v2.2.2.1.len v2.2.2.1.cap),(.int .i64 v2.2.2.2.1),(.int .i64 v2.2.2.2.2.1),(.slice v2.2.2.2.2.2.1.base v2.2.2.2.2.2.1.len v2.2.2.2.2.2.1.cap),(.slice v2.2.2.2.2.2.2.1.base v2.2.2.2.2.2.2.1.len v2.2.2.2.2.2.2.1.cap),(.slice v2.2.2.2.2.2.2.2.1.base v2.2.2.2.2.2.2.2.1.len v2.2.2.2.2.2.2.2.1.cap),(.bool v2.2.2.2.2.2.2.2.2.1)])] w R:=by
 refine aaZ aSZ Tryz.func78 (c:=q17writes.body) (by kernel_rfl) [.at .bool] (q17writes.ann R) 155 Tryz.ntmps78 [.tmp 6] (by kernel_rfl) (Nat.le_of_ble_eq_true (by kernel_rfl)) ?_ ?_
 ·exact⟨tv,⟨tv,⟨tv,⟨tv,⟨tv,⟨tv,⟨tv,⟨tv,⟨fun s w=>mq,⟨tv,⟨tv,⟨⟨tv,⟨tv,⟨tv,tv⟩⟩⟩,⟨tv,⟨⟨tv,⟨tv,⟨tv,tv⟩⟩⟩,⟨tv,⟨⟨tv,⟨tv,⟨tv,tv⟩⟩⟩,⟨tv,⟨⟨tv,⟨tv,⟨tv,tv⟩⟩⟩,⟨tv,⟨⟨tv,⟨tv,⟨tv,tv⟩⟩⟩,⟨tv,⟨⟨fun s w=>mq,(show Region.noSelect _=true by kernel_rfl),⟨tv,⟨tv,tv⟩⟩⟩,tv⟩⟩⟩⟩⟩⟩⟩⟩⟩⟩⟩⟩⟩,⟨tv,tv⟩⟩⟩⟩⟩⟩⟩⟩⟩⟩
 ·exact Eq.mp (show q17writes.M R v0 v1 v2 w=_ by kernel_rfl) h
noncomputable def q17one.body:Code:=(Tryz.f50.body).getD .skip
def q17one.j3(R:EPq)(v0:(Option Addr))(v1:(Option Addr))(v5:Addr)(t27:Bool)(w:World):Prop:=
 Cd t27 (Rd Tryz.prog (Instr.loadAt 100 (.pointer (some v5))) (.one (.agg [.int .i64,.sl,.sl,.int .i64,.int .i64,.sl,.sl,.sl,.bool])) (fun x13 w14=>
 Cl Tryz.prog 80 #[(.pointer v0),(.pointer v1),(.agg #[(.int .i64 x13.1),(.slice x13.2.1.base x13.2.1.len x13.2.1.cap),(.slice x13.2.2.1.base x13.2.2.1.len x13.2.2.1.cap),(.int .i64 x13.2.2.2.1),(.int .i64 x13.2.2.2.2.1),(.slice x13.2.2.2.2.2.1.base x13.2.2.2.2.2.1.len x13.2.2.2.2.2.1.cap),(.slice x13.2.2.2.2.2.2.1.base x13.2.2.2.2.2.2.1.len x13.2.2.2.2.2.2.1.cap),(.slice x13.2.2.2.2.2.2.2.1.base x13.2.2.2.2.2.2.2.1.len x13.2.2.2.2.2.2.2.1.cap),(.bool x13.2.2.2.2.2.2.2.2.1)])] (.one (.at .bool)) (fun(x15:Bool) w16=>
 R (.returned (.bool x15)) w16) w14) w) (R (.returned (.bool true)) w)
def q17one.j2(R:EPq)(v0:(Option Addr))(v1:(Option Addr))(v5:Addr)(t8:Int)(t20:Bool)(w:World):Prop:=
 Cd t20 (Rd Tryz.prog (Instr.loadAt 100 (.pointer (some v5))) (.one (.agg [.int .i64,.sl,.sl,.int .i64,.int .i64,.sl,.sl,.sl,.bool])) (fun x9 w10=>
 Cl Tryz.prog 79 #[(.pointer v0),(.pointer v1),(.agg #[(.int .i64 x9.1),(.slice x9.2.1.base x9.2.1.len x9.2.1.cap),(.slice x9.2.2.1.base x9.2.2.1.len x9.2.2.1.cap),(.int .i64 x9.2.2.2.1),(.int .i64 x9.2.2.2.2.1),(.slice x9.2.2.2.2.2.1.base x9.2.2.2.2.2.1.len x9.2.2.2.2.2.1.cap),(.slice x9.2.2.2.2.2.2.1.base x9.2.2.2.2.2.2.1.len x9.2.2.2.2.2.2.1.cap),(.slice x9.2.2.2.2.2.2.2.1.base x9.2.2.2.2.2.2.2.1.len x9.2.2.2.2.2.2.2.1.cap),(.bool x9.2.2.2.2.2.2.2.2.1)])] (.one (.at .bool)) (fun(x11:Bool) w12=>
 R (.returned (.bool x11)) w12) w10) w) (Cd (t8==9) (q17one.j3 R v0 v1 v5 (t8==9) w) (Cd (t8==10) (q17one.j3 R v0 v1 v5 (t8==10) w) (q17one.j3 R v0 v1 v5 (t8==11) w)))
def q17one.j1(R:EPq)(v0:(Option Addr))(v1:(Option Addr))(v5:Addr)(t8:Int)(t9:Bool)(w:World):Prop:=
 Cd t9 (Rd Tryz.prog (Instr.loadAt 100 (.pointer (some v5))) (.one (.agg [.int .i64,.sl,.sl,.int .i64,.int .i64,.sl,.sl,.sl,.bool])) (fun x5 w6=>
 Cl Tryz.prog 78 #[(.pointer v0),(.pointer v1),(.agg #[(.int .i64 x5.1),(.slice x5.2.1.base x5.2.1.len x5.2.1.cap),(.slice x5.2.2.1.base x5.2.2.1.len x5.2.2.1.cap),(.int .i64 x5.2.2.2.1),(.int .i64 x5.2.2.2.2.1),(.slice x5.2.2.2.2.2.1.base x5.2.2.2.2.2.1.len x5.2.2.2.2.2.1.cap),(.slice x5.2.2.2.2.2.2.1.base x5.2.2.2.2.2.2.1.len x5.2.2.2.2.2.2.1.cap),(.slice x5.2.2.2.2.2.2.2.1.base x5.2.2.2.2.2.2.2.1.len x5.2.2.2.2.2.2.2.1.cap),(.bool x5.2.2.2.2.2.2.2.2.1)])] (.one (.at .bool)) (fun(x7:Bool) w8=>
 R (.returned (.bool x7)) w8) w6) w) (Cd (t8==3) (q17one.j2 R v0 v1 v5 t8 (t8==3) w) (q17one.j2 R v0 v1 v5 t8 (t8==4) w))
def q17one.M(R:EPq)(v0:(Option Addr))(v1:(Option Addr))(v2:(Int×Sl×Sl×Int×Int×Sl×Sl×Sl×Bool×Unit))(w:World):Prop:=
 Wr Tryz.prog (Instr.box 100 (.agg #[(.int .i64 v2.1),(.slice v2.2.1.base v2.2.1.len v2.2.1.cap),(.slice v2.2.2.1.base v2.2.2.1.len v2.2.2.1.cap),(.int .i64 v2.2.2.2.1),(.int .i64 v2.2.2.2.2.1),(.slice v2.2.2.2.2.2.1.base v2.2.2.2.2.2.1.len v2.2.2.2.2.2.1.cap),(.slice v2.2.2.2.2.2.2.1.base v2.2.2.2.2.2.2.1.len v2.2.2.2.2.2.2.1.cap),(.slice v2.2.2.2.2.2.2.2.1.base v2.2.2.2.2.2.2.2.1.len v2.2.2.2.2.2.2.2.1.cap),(.bool v2.2.2.2.2.2.2.2.2.1)])) (.one (.at .addr)) (fun(x1:Addr) w2=>
 Rd Tryz.prog (Instr.loadAt 3 (.pointer (some x1))) (.one (.at (.int .i64))) (fun(x3:Int) w4=>
 Cd (x3==1) (q17one.j1 R v0 v1 x1 x3 (x3==1) w4) (Cd (x3==2) (q17one.j1 R v0 v1 x1 x3 (x3==2) w4) (Cd (x3==5) (q17one.j1 R v0 v1 x1 x3 (x3==5) w4) (Cd (x3==6) (q17one.j1 R v0 v1 x1 x3 (x3==6) w4) (Cd (x3==7) (q17one.j1 R v0 v1 x1 x3 (x3==7) w4) (q17one.j1 R v0 v1 x1 x3 (x3==8) w4)))))) w2) w
noncomputable def q17one.ann(R:EPq):Ann:=
 .seq (.reg (.op 0 (.wr (.one (.at .addr))) (.op 1 .now (.done)))) (.seq (.seq (.reg (.op 0 .now (.op 1 (.rd (.one qcI)) (.done)))) (.block (.join [(0,qcP),(1,qcP),(5,.at .addr),(8,qcI),(9,.at .bool)] (fun s w=>q17one.j1 R s.1 s.2.1 s.2.2.1 s.2.2.2.1 s.2.2.2.2.1 w) (.seq (.reg qN2) (.cond (.leaf) (.seq (.reg qN2) (.cond (.leaf) (.seq (.reg qN2) (.cond (.leaf) (.seq (.reg qN2) (.cond (.leaf) (.seq (.reg qN2) (.cond (.leaf) (.reg qN2))))))))))) (.cond (.seq (.reg (.op 0 .now (.op 1 .now (.op 2 (.rd (.one (.agg [.int .i64,.sl,.sl,.int .i64,.int .i64,.sl,.sl,.sl,.bool]))) (.op 3 (.cl (.one (.at .bool))) (.op 4 .now (.done))))))) (.leaf)) (.join [(0,qcP),(1,qcP),(5,.at .addr),(8,qcI),(20,.at .bool)] (fun s w=>q17one.j2 R s.1 s.2.1 s.2.2.1 s.2.2.2.1 s.2.2.2.2.1 w) (.seq (.reg qN2) (.cond (.leaf) (.reg qN2))) (.cond (.seq (.reg (.op 0 .now (.op 1 .now (.op 2 (.rd (.one (.agg [.int .i64,.sl,.sl,.int .i64,.int .i64,.sl,.sl,.sl,.bool]))) (.op 3 (.cl (.one (.at .bool))) (.op 4 .now (.done))))))) (.leaf)) (.join [(0,qcP),(1,qcP),(5,.at .addr),(27,.at .bool)] (fun s w=>q17one.j3 R s.1 s.2.1 s.2.2.1 s.2.2.2.1 w) (.seq (.reg qN2) (.cond (.leaf) (.seq (.reg qN2) (.cond (.leaf) (.reg qN2))))) (.cond (.seq (.reg (.op 0 .now (.op 1 .now (.op 2 (.rd (.one (.agg [.int .i64,.sl,.sl,.int .i64,.int .i64,.sl,.sl,.sl,.bool]))) (.op 3 (.cl (.one (.at .bool))) (.op 4 .now (.done))))))) (.leaf)) (.leaf))))))))) (.seq (.reg qN1) (.leaf)))
theorem q17one.run(R:EPq)(v0:(Option Addr))(v1:(Option Addr))(v2:(Int×Sl×Sl×Int×Int×Sl×Sl×Sl×Bool×Unit))(w:World)(h:q17one.M R v0 v1 v2 w):Calls Tryz.prog 50 #[(.pointer v0),(.pointer v1),(.agg #[(.int .i64 v2.1),(.slice v2.2.1.base v2.2.1.len v2.2.1.cap),(.slice v2.2.2.1.base v2.2.2.1.len v2.2.2.1.cap),(.int .i64 v2.2.2.2.1),(.int .i64 v2.2.2.2.2.1),(.slice v2.2.2.2.2.2.1.base v2.2.2.2.2.2.1.len v2.2.2.2.2.2.1.cap),(.slice v2.2.2.2.2.2.2.1.base v2.2.2.2.2.2.2.1.len v2.2.2.2.2.2.2.1.cap),(.slice v2.2.2.2.2.2.2.2.1.base v2.2.2.2.2.2.2.2.1.len v2.2.2.2.2.2.2.2.1.cap),(.bool v2.2.2.2.2.2.2.2.2.1)])] w R:=by
 refine aaZ aSZ Tryz.func50 (c:=q17one.body) (by kernel_rfl) [.at .bool] (q17one.ann R) 35 Tryz.ntmps50 [.tmp 6] (by kernel_rfl) (Nat.le_of_ble_eq_true (by kernel_rfl)) ?_ ?_
 ·exact⟨tv,⟨⟨tv,⟨fun s w=>mq,⟨tv,⟨tv,⟨tv,⟨tv,⟨tv,⟨tv,⟨tv,⟨tv,⟨tv,⟨tv,tv⟩⟩⟩⟩⟩⟩⟩⟩⟩⟩,⟨⟨tv,tv⟩,⟨fun s w=>mq,⟨tv,⟨tv,tv⟩⟩,⟨⟨tv,tv⟩,⟨fun s w=>mq,⟨tv,⟨tv,⟨tv,⟨tv,tv⟩⟩⟩⟩,⟨⟨tv,tv⟩,tv⟩⟩⟩⟩⟩⟩⟩,⟨tv,tv⟩⟩⟩
 ·exact Eq.mp (show q17one.M R v0 v1 v2 w=_ by kernel_rfl) h
noncomputable def q17plays.body:Code:=(Tryz.f31.body).getD .skip
def q17plays.j2(R:EPq)(k1:(Sl×Int×Int×(Option Addr)×(Option Addr)×Int×Unit)→WPq)(v1:Sl)(v2:Int)(v3:Int)(v9:(Option Addr))(v11:(Option Addr))(v13:Int)(t81:Bool)(w:World):Prop:=
 Cd t81 (R (.returned (.bool false)) w) (k1 (v1,v2,v3,v9,v11,(IntKind.wrap .i64 (v13+1)),()) w)
def q17plays.b1(R:EPq)(k1:(Sl×Int×Int×(Option Addr)×(Option Addr)×Int×Unit)→WPq)(v1:Sl)(v2:Int)(v3:Int)(v9:(Option Addr))(v11:(Option Addr))(v13:Int)(w:World):Prop:=
 Cd (decide (v13<((v1.len:Nat):Int))) (Pu Tryz.prog (Instr.indexAt 64 (.slice v1.base v1.len v1.cap) (.int .i64 v13)) (.one (.at .addr)) (fun(x25:Addr) w26=>
 Rd Tryz.prog (Instr.loadAt 3 (.pointer (some x25))) (.one (.at (.int .i64))) (fun(x27:Int) w28=>
 Cd (decide (x27≥v2)) (Pu Tryz.prog (Instr.indexAt 64 (.slice v1.base v1.len v1.cap) (.int .i64 v13)) (.one (.at .addr)) (fun(x29:Addr) w30=>
 Rd Tryz.prog (Instr.loadAt 3 (.pointer (some x29))) (.one (.at (.int .i64))) (fun(x31:Int) w32=>
 Cd (decide (x31≤v3)) (Pu Tryz.prog (Instr.indexAt 64 (.slice v1.base v1.len v1.cap) (.int .i64 v13)) (.one (.at .addr)) (fun(x33:Addr) w34=>
 Rd Tryz.prog (Instr.loadAt 100 (.pointer (some x33))) (.one (.agg [.int .i64,.sl,.sl,.int .i64,.int .i64,.sl,.sl,.sl,.bool])) (fun x35 w36=>
 Cl Tryz.prog 50 #[(.pointer v9),(.pointer v11),(.agg #[(.int .i64 x35.1),(.slice x35.2.1.base x35.2.1.len x35.2.1.cap),(.slice x35.2.2.1.base x35.2.2.1.len x35.2.2.1.cap),(.int .i64 x35.2.2.2.1),(.int .i64 x35.2.2.2.2.1),(.slice x35.2.2.2.2.2.1.base x35.2.2.2.2.2.1.len x35.2.2.2.2.2.1.cap),(.slice x35.2.2.2.2.2.2.1.base x35.2.2.2.2.2.2.1.len x35.2.2.2.2.2.2.1.cap),(.slice x35.2.2.2.2.2.2.2.1.base x35.2.2.2.2.2.2.2.1.len x35.2.2.2.2.2.2.2.1.cap),(.bool x35.2.2.2.2.2.2.2.2.1)])] (.one (.at .bool)) (fun(x37:Bool) w38=>
 q17plays.j2 R k1 v1 v2 v3 v9 v11 v13 (!x37) w38) w36) w34) w32) (q17plays.j2 R k1 v1 v2 v3 v9 v11 v13 false w32)) w30) w28) (q17plays.j2 R k1 v1 v2 v3 v9 v11 v13 false w28)) w26) w) (Pu Tryz.prog (do eqGuard .eql 96 (.tmp 82) (.const (.pointer none)) (.pointer v11) (.pointer none);binOp .eql 96 (.pointer v11) (.pointer none)) (.one (.at .bool)) (fun(x39:Bool) w40=>
 Cd x39 (Cl Tryz.prog 33 #[(.pointer v9)] (.one (.at (.int .i64))) (fun(x41:Int) w42=>
 R (.returned (.bool (x41==0))) w42) w40) (Held w40.drew (fun S43=>Pu Tryz.prog (amZ v11) (.one (.at .addr)) (fun(x44:Addr) w45=>
 RdS Tryz.prog S43 (Instr.loadAt 53 (.pointer (some (Addr.add x44 4)))) (.one (.at .sl)) (fun(x46:Sl) w47=>
 Cl Tryz.prog 33 #[(.pointer v9)] (.one (.at (.int .i64))) (fun(x48:Int) w49=>
 S43 w49∧(R (.returned (.bool (x48==((x46.len:Nat):Int)))) w49)) w47) w45) w40.drew))) w)
def q17plays.l1(R:EPq):(Sl×Int×Int×(Option Addr)×(Option Addr)×Int×Unit)→World→Prop:=arZ (fun k1 s w=>q17plays.b1 R k1 s.1 s.2.1 s.2.2.1 s.2.2.2.1 s.2.2.2.2.1 s.2.2.2.2.2.1 w)
def q17plays.j1(R:EPq)(v1:Sl)(v2:Int)(v3:Int)(v9:(Option Addr))(v11:(Option Addr))(t49:Bool)(w:World):Prop:=
 Cd t49 (R (.returned (.bool false)) w) (q17plays.l1 R (v1,v2,v3,v9,v11,0,()) w)
def q17plays.M(R:EPq)(v0:(Int×Int×Int×Int×Unit))(v1:Sl)(v2:Int)(v3:Int)(w:World):Prop:=
 Wr Tryz.prog (Instr.box 23 (.agg #[(.int .i64 v0.1),(.int .i64 v0.2.1),(.int .i64 v0.2.2.1),(.int .i64 v0.2.2.2.1)])) (.one (.at .addr)) (fun(x1:Addr) w2=>
 Cl Tryz.prog 11 #[] (.one (.at .bool)) (fun(x3:Bool) w4=>
 Cd (!x3) (R (.returned (.bool false)) w4) (Rd Tryz.prog (Instr.loadAt 3 (.pointer (some x1))) (.one (.at (.int .i64))) (fun(x5:Int) w6=>
 Rd Tryz.prog (Instr.loadAt 3 (.pointer (some (Addr.add x1 1)))) (.one (.at (.int .i64))) (fun(x7:Int) w8=>
 Rd Tryz.prog (Instr.loadAt 3 (.pointer (some (Addr.add x1 2)))) (.one (.at (.int .i64))) (fun(x9:Int) w10=>
 Rd Tryz.prog (Instr.loadAt 3 (.pointer (some (Addr.add x1 3)))) (.one (.at (.int .i64))) (fun(x11:Int) w12=>
 Cl Tryz.prog 32 #[(.int .i64 x5),(.int .i64 x7),(.int .i64 x9),(.int .i64 x11)] (.tup [.at .ptr,.at (.int .i64)]) (fun x13 w14=>
 Rd Tryz.prog (Instr.loadAt 3 (.pointer (some x1))) (.one (.at (.int .i64))) (fun(x15:Int) w16=>
 Rd Tryz.prog (Instr.loadAt 3 (.pointer (some (Addr.add x1 1)))) (.one (.at (.int .i64))) (fun(x17:Int) w18=>
 Rd Tryz.prog (Instr.loadAt 3 (.pointer (some (Addr.add x1 2)))) (.one (.at (.int .i64))) (fun(x19:Int) w20=>
 Rd Tryz.prog (Instr.loadAt 3 (.pointer (some (Addr.add x1 3)))) (.one (.at (.int .i64))) (fun(x21:Int) w22=>
 Cl Tryz.prog 49 #[(.int .i64 x15),(.int .i64 x17),(.int .i64 x19),(.int .i64 x21)] (.tup [.at .ptr,.at (.int .i64)]) (fun x23 w24=>
 Cd (x13.2.1 !=x23.2.1) (q17plays.j1 R v1 v2 v3 x13.1 x23.1 true w24) (Pu Tryz.prog (do eqGuard .eql 26 (.tmp 44) (.const (.pointer none)) (.pointer x13.1) (.pointer none);binOp .eql 26 (.pointer x13.1) (.pointer none)) (.one (.at .bool)) (fun(x50:Bool) w51=>
 Pu Tryz.prog (do eqGuard .eql 96 (.tmp 46) (.const (.pointer none)) (.pointer x23.1) (.pointer none);binOp .eql 96 (.pointer x23.1) (.pointer none)) (.one (.at .bool)) (fun(x52:Bool) w53=>
 q17plays.j1 R v1 v2 v3 x13.1 x23.1 (!(x50==x52)) w53) w51) w24)) w22) w20) w18) w16) w14) w12) w10) w8) w6) w4)) w2) w
noncomputable def q17plays.ann(R:EPq):Ann:=
 .seq (.reg (.op 0 (.wr (.one (.at .addr))) (.op 1 .now (.done)))) (.seq (.seq (.reg (.op 0 (.cl (.one (.at .bool))) (.op 1 .now (.done)))) (.cond (.seq (.reg qN1) (.leaf)) (.leaf))) (.seq (.reg (.op 0 .now (.op 1 (.rd (.one qcI)) (.op 2 .now (.op 3 (.rd (.one qcI)) (.op 4 .now (.op 5 (.rd (.one qcI)) (.op 6 .now (.op 7 (.rd (.one qcI)) (.op 8 (.cl (.tup [.at .ptr,.at (.int .i64)])) (.op 9 .now (.op 10 .now (.op 11 .now (.op 12 .now (.op 13 .now (.done)))))))))))))))) (.seq (.reg (.op 0 .now (.op 1 (.rd (.one qcI)) (.op 2 .now (.op 3 (.rd (.one qcI)) (.op 4 .now (.op 5 (.rd (.one qcI)) (.op 6 .now (.op 7 (.rd (.one qcI)) (.op 8 (.cl (.tup [.at .ptr,.at (.int .i64)])) (.op 9 .now (.op 10 .now (.op 11 .now (.op 12 .now (.op 13 .now (.done)))))))))))))))) (.seq (.join [(1,qcS),(2,qcI),(3,qcI),(9,qcP),(11,qcP),(49,.at .bool)] (fun s w=>q17plays.j1 R s.1 s.2.1 s.2.2.1 s.2.2.2.1 s.2.2.2.2.1 s.2.2.2.2.2.1 w) (.reg (.op 0 .now (.op 1 .now (.op 2 .now (.op 3 .now (.split 3 (.skip 4 (.skip 5 (.skip 6 (.skip 7 (.skip 8 (.op 9 .now (.done))))))) (.op 4 .now (.op 5 (.pu (.one (.at .bool))) (.op 6 .now (.op 7 (.pu (.one (.at .bool))) (.op 8 .now (.op 9 .now (.done))))))))))))) (.cond (.seq (.reg qN1) (.leaf)) (.leaf))) (.seq (.seq (.reg qN1) (.block (.loop [(1,qcS),(2,qcI),(3,qcI),(9,qcP),(11,qcP),(13,qcI)] (fun k1 s w=>q17plays.b1 R k1 s.1 s.2.1 s.2.2.1 s.2.2.2.1 s.2.2.2.2.1 s.2.2.2.2.2.1 w) (fun k1=>.seq (.seq (.reg qN4) (.cond (.leaf) (.leaf))) (.seq (.block (.join [(1,qcS),(2,qcI),(3,qcI),(9,qcP),(11,qcP),(13,qcI),(81,.at .bool)] (fun s w=>q17plays.j2 R k1 s.1 s.2.1 s.2.2.1 s.2.2.2.1 s.2.2.2.2.1 s.2.2.2.2.2.1 s.2.2.2.2.2.2.1 w) (.reg (.op 0 .now (.op 1 .now (.op 2 qpA (.op 3 .now (.op 4 (.rd (.one qcI)) (.op 5 .now (.op 6 .now (.op 7 .now (.split 7 (.op 8 .now (.op 9 .now (.op 10 qpA (.op 11 .now (.op 12 (.rd (.one qcI)) (.op 13 .now (.op 14 .now (.op 15 .now (.op 16 .now (.split 16 (.op 17 .now (.op 18 .now (.op 19 .now (.op 20 .now (.op 21 qpA (.op 22 (.rd (.one (.agg [.int .i64,.sl,.sl,.int .i64,.int .i64,.sl,.sl,.sl,.bool]))) (.op 23 (.cl (.one (.at .bool))) (.op 24 .now (.op 25 .now (.done)))))))))) (.skip 17 (.skip 18 (.skip 19 (.skip 20 (.skip 21 (.skip 22 (.skip 23 (.skip 24 (.op 25 .now (.done)))))))))))))))))))) (.skip 8 (.skip 9 (.skip 10 (.skip 11 (.skip 12 (.skip 13 (.skip 14 (.op 15 .now (.op 16 .now (.skip 17 (.skip 18 (.skip 19 (.skip 20 (.skip 21 (.skip 22 (.skip 23 (.skip 24 (.op 25 .now (.done))))))))))))))))))))))))))))) (.cond (.seq (.reg qN1) (.leaf)) (.leaf)))) (.reg qN3)))))) (.seq (.seq (.reg (.op 0 .now (.op 1 (.pu (.one (.at .bool))) (.done)))) (.cond (.seq (.reg (.op 0 .now (.op 1 (.cl (.one qcI)) (.op 2 .now (.op 3 .now (.done)))))) (.leaf)) (.leaf))) (.seq (.regD (.op 0 .now (.op 2 .now (.op 3 qpA (.op 4 .now (.op 5 qrS (.op 6 .now (.op 1 (.cl (.one qcI)) (.op 7 .now (.op 8 .now (.done))))))))))) (.leaf))))))))
theorem q17plays.run(R:EPq)(v0:(Int×Int×Int×Int×Unit))(v1:Sl)(v2:Int)(v3:Int)(w:World)(h:q17plays.M R v0 v1 v2 v3 w):Calls Tryz.prog 31 #[(.agg #[(.int .i64 v0.1),(.int .i64 v0.2.1),(.int .i64 v0.2.2.1),(.int .i64 v0.2.2.2.1)]),(.slice v1.base v1.len v1.cap),(.int .i64 v2),(.int .i64 v3)] w R:=by
 refine aaZ aSZ Tryz.func31 (c:=q17plays.body) (by kernel_rfl) [.at .bool] (q17plays.ann R) 95 Tryz.ntmps31 [.tmp 8] (by kernel_rfl) (Nat.le_of_ble_eq_true (by kernel_rfl)) ?_ ?_
 ·exact⟨tv,⟨⟨tv,⟨⟨tv,tv⟩,tv⟩⟩,⟨tv,⟨tv,⟨⟨fun s w=>mq,tv,⟨⟨tv,tv⟩,tv⟩⟩,⟨⟨tv,(fun k1=>⟨fun s w=>mq,⟨⟨tv,⟨tv,tv⟩⟩,⟨⟨fun s w=>mq,tv,⟨⟨tv,tv⟩,tv⟩⟩,tv⟩⟩⟩)⟩,⟨⟨tv,⟨⟨tv,tv⟩,tv⟩⟩,⟨(show Region.noSelect _=true by kernel_rfl),tv⟩⟩⟩⟩⟩⟩⟩⟩
 ·exact Eq.mp (show q17plays.M R v0 v1 v2 v3 w=_ by kernel_rfl) h
noncomputable def q17McodeGives.body:Code:=(Tryz.f9.body).getD .skip
def q17McodeGives.M(R:EPq)(v0:(Int×Int×Int×Int×Unit))(v1:Sl)(w:World):Prop:=
 Wr Tryz.prog (Instr.box 23 (.agg #[(.int .i64 v0.1),(.int .i64 v0.2.1),(.int .i64 v0.2.2.1),(.int .i64 v0.2.2.2.1)])) (.one (.at .addr)) (fun(x1:Addr) w2=>
 Rd Tryz.prog (Instr.loadAt 23 (.pointer (some x1))) (.one (.agg [.int .i64,.int .i64,.int .i64,.int .i64])) (fun x3 w4=>
 Cl Tryz.prog 31 #[(.agg #[(.int .i64 x3.1),(.int .i64 x3.2.1),(.int .i64 x3.2.2.1),(.int .i64 x3.2.2.2.1)]),(.slice v1.base v1.len v1.cap),(.int .i64 5),(.int .i64 6)] (.one (.at .bool)) (fun(x5:Bool) w6=>
 R (.returned (.bool x5)) w6) w4) w2) w
noncomputable def q17McodeGives.ann(R:EPq):Ann:=
 .seq (.reg (.op 0 (.wr (.one (.at .addr))) (.op 1 .now (.done)))) (.seq (.reg (.op 0 (.rd (.one (.agg [.int .i64,.int .i64,.int .i64,.int .i64]))) (.op 1 .now (.op 2 (.cl (.one (.at .bool))) (.op 3 .now (.done)))))) (.leaf))
theorem q17McodeGives.run(R:EPq)(v0:(Int×Int×Int×Int×Unit))(v1:Sl)(w:World)(h:q17McodeGives.M R v0 v1 w):Calls Tryz.prog 9 #[(.agg #[(.int .i64 v0.1),(.int .i64 v0.2.1),(.int .i64 v0.2.2.1),(.int .i64 v0.2.2.2.1)]),(.slice v1.base v1.len v1.cap)] w R:=by
 refine aaZ aSZ Tryz.func9 (c:=q17McodeGives.body) (by kernel_rfl) [.at .bool] (q17McodeGives.ann R) 8 Tryz.ntmps9 [.tmp 4] (by kernel_rfl) (Nat.le_of_ble_eq_true (by kernel_rfl)) ?_ ?_
 ·exact⟨tv,⟨tv,tv⟩⟩
 ·exact Eq.mp (show q17McodeGives.M R v0 v1 w=_ by kernel_rfl) h
end Go.Proofs.YtbiilejgfihohaaGreat
namespace Go.Proofs.YtbiilejgfihohaaGreat
open Go Go.Cu Go.RowKit
theorem bv64{z:Nat}(hz:z<9223372036854775808):(BitVec.ofInt 64 (z:Int)).toNat=z:=by rw[BitVec.ofInt_natCast,BitVec.toNat_ofNat,Nat.mod_eq_of_lt (by omega)]
theorem bAnd_i{x y:Nat}(hx:x<9223372036854775808)(hy:y<9223372036854775808):bAnd .i64 (x:Int) (y:Int)=((x &&& y:Nat):Int):=by
 show IntKind.wrap .i64 (((BitVec.ofInt 64 (x:Int) &&& BitVec.ofInt 64 (y:Int)).toNat:Nat):Int)=_
 have:=Nat.and_le_left (n:=x) (m:=y)
 rw[BitVec.toNat_and,bv64 hx,bv64 hy,adZ (by omega) (by omega)]
theorem bXor_i{x y:Nat}(hx:x<2 ^ 62)(hy:y<2 ^ 62):bXor .i64 (x:Int) (y:Int)=((x ^^^ y:Nat):Int):=by
 show IntKind.wrap .i64 (((BitVec.ofInt 64 (x:Int) ^^^ BitVec.ofInt 64 (y:Int)).toNat:Nat):Int)=_
 have:=Nat.xor_lt_two_pow hx hy
 rw[BitVec.toNat_xor,bv64 (by omega),bv64 (by omega),adZ (by omega) (by omega)]
theorem shR_nat(k:IntKind)(x i:Nat)(hi:i≤k.bits):shR k (x:Int) (i:Int)=((x >>> i:Nat):Int):=by
 unfold shR
 rw[Int.toNat_natCast,Nat.min_eq_left hi,Int.fdiv_eq_ediv_of_nonneg _ (Int.le_of_lt (Int.pow_pos (by decide))),Nat.shiftRight_eq_div_pow]
 norm_cast
theorem shL_i(x i:Nat)(hi:i≤64)(hx:x*2 ^ i<9223372036854775808):shL .i64 (x:Int) (i:Int)=((x <<< i:Nat):Int):=by
 unfold shL
 have e:((x:Int)*2 ^ i)=((x*2 ^ i:Nat):Int):=by push_cast;rfl
 rw[Int.toNat_natCast,show min i (IntKind.bits .i64)=i from Nat.min_eq_left hi,e,adZ (by omega) (by omega),Nat.shiftLeft_eq]
theorem wrap_u64_n{n:Nat}(h:n<18446744073709551616):IntKind.wrap .u64 (n:Int)=(n:Int):=aNZ (by omega) (by omega)
theorem u8n(n:Nat):IntKind.wrap .u8 (n:Int)=((BitVec.ofNat 8 n).toNat:Int):=by
 rw[aVZ,BitVec.toNat_ofNat]
theorem rmul_gv{w:World}(a b:F8):Gv Tryz.prog 123 #[.int .u8 (a.toNat:Int),.int .u8 (b.toNat:Int)] (.int .u8 ((ahZ a b).toNat:Int)) w:=by
 refine culletref02_Mul.run _ _ _ w ?_
 have ha:=a.isLt
 have hb:=b.isLt
 unfold culletref02_Mul.M culletref02_Mul.l1
 refine acZ (fun st w'=>∃i:Nat,st=((a.toNat:Int),(b.toNat:Int),((mulP a.toNat b.toNat i:Nat):Int),(i:Int),())∧w'=w∧i≤8) (fun st _=>(8-st.2.2.2.1).toNat) ?_ ⟨0,rfl,rfl,by omega⟩
 rintro k _ w' ⟨i,rfl,rfl,hi⟩ hk
 have hp:=mulP_lt (b:=b.toNat) ha i hi
 unfold culletref02_Mul.b1
 dsimp only at hk ⊢
 refine abZ (fun hlt=>?_) (fun hge=>?_)
 ·have hi7:i≤7:=by omega
  have nxt:∀p':Int,p'=((mulP a.toNat b.toNat (i+1):Nat):Int)→culletref02_Mul.j1 (fun e w2=>e=Ending.returned (.int .u8 ((ahZ a b).toNat:Int))∧Ex w' w2) k (a.toNat:Int) (b.toNat:Int) p' (i:Int) w':=by
   rintro _ rfl
   unfold culletref02_Mul.j1
   rw[adZ (by omega) (by omega),show(i:Int)+1=((i+1:Nat):Int) by omega]
   exact hk _ _ ⟨i+1,rfl,rfl,by omega⟩ (by dsimp only;omega)
  rw[wrap_u64_n (by omega),adZ (by omega) (by omega)]
  refine Pu_shr (by omega) ?_
  rw[shR_nat .u8 _ _ (by show i≤8;omega)]
  have hsh:b.toNat >>> i<256:=Nat.lt_of_le_of_lt (Nat.shiftRight_le _ _) hb
  have e1:bAnd .u8 ((b.toNat >>> i:Nat):Int) 1=((b.toNat >>> i &&& 1:Nat):Int):=bAnd_nat .u8 8 (.inl ⟨rfl,rfl⟩) _ 1 hsh (by decide)
  rw[e1]
  have hpow:a.toNat*2 ^ i≤255*2 ^ 7:=Nat.mul_le_mul (by omega) (Nat.pow_le_pow_right (by omega) hi7)
  refine aJZ (fun h=>?_) (fun h=>?_)
  ·refine Pu_shl (by omega) (nxt _ ?_)
   rw[shL_i _ _ (by omega) (by omega),bXor_i (by omega) (by rw[Nat.shiftLeft_eq];omega)]
   simp only[mulP]
   unfold stpM
   rw[if_pos (by omega)]
  ·refine nxt _ ?_
   simp only[mulP]
   unfold stpM
   rw[if_neg (by omega)]
 ·have hi8:i=8:=by omega
  subst hi8
  unfold culletref02_Mul.l2
  refine acZ (fun st w2=>∃t:Nat,st=(((redP (mulP a.toNat b.toNat 8) t:Nat):Int),14-(t:Int),())∧w2=w'∧t≤7) (fun st _=>(st.2.1).toNat) ?_ ⟨0,rfl,rfl,by omega⟩
  rintro k2 _ w3 ⟨t,rfl,rfl,ht⟩ hk2
  have hr:=redP_lt hp t ht
  unfold culletref02_Mul.b2
  dsimp only at hk2 ⊢
  refine abZ (fun hlt=>?_) (fun hge=>?_)
  ·have ht6:t≤6:=by omega
   have nx2:∀p':Int,p'=((redP (mulP a.toNat b.toNat 8) (t+1):Nat):Int)→culletref02_Mul.j2 (fun e w2=>e=Ending.returned (.int .u8 ((ahZ a b).toNat:Int))∧Ex w3 w2) k2 p' (14-(t:Int)) w3:=by
    rintro _ rfl
    unfold culletref02_Mul.j2
    rw[adZ (by omega) (by omega),show 14-(t:Int)-1=14-((t+1:Nat):Int) by omega]
    exact hk2 _ _ ⟨t+1,rfl,rfl,by omega⟩ (by dsimp only;omega)
   rw[show 14-(t:Int)=((14-t:Nat):Int) by omega,wrap_u64_n (by omega)]
   rw[show 14-(t:Int)=((14-t:Nat):Int) by omega]at nx2
   refine Pu_shr (by omega) ?_
   rw[shR_nat .i64 _ _ (by show 14-t≤64;omega)]
   have hsh:redP (mulP a.toNat b.toNat 8) t >>> (14-t)≤redP (mulP a.toNat b.toNat 8) t:=Nat.shiftRight_le _ _
   have e1:=bAnd_i (x:=redP (mulP a.toNat b.toNat 8) t >>> (14-t)) (y:=1) (by omega) (by omega)
   rw[show((1:Nat):Int)=1 from rfl]at e1
   rw[e1]
   refine aJZ (fun h=>?_) (fun h=>?_)
   ·rw[adZ (x:=((14-t:Nat):Int)-8) (by omega) (by omega),show((14-t:Nat):Int)-8=((14-t-8:Nat):Int) by omega,wrap_u64_n (by omega)]
    have hpow:285*2 ^ (14-t-8)≤285*2 ^ 6:=Nat.mul_le_mul (Nat.le_refl _) (Nat.pow_le_pow_right (by omega) (by omega))
    refine Pu_shl (by omega) (nx2 _ ?_)
    have e2:=shL_i 285 (14-t-8) (by omega) (by omega)
    rw[show((285:Nat):Int)=285 from rfl]at e2
    rw[e2,bXor_i (by omega) (by rw[Nat.shiftLeft_eq];omega)]
    simp only[redP]
    unfold stR
    rw[if_pos (by omega)]
   ·refine nx2 _ ?_
    simp only[redP]
    unfold stR
    rw[if_neg (by omega)]
  ·have ht7:t=7:=by omega
   subst ht7
   refine⟨?_,Ex.refl _⟩
   have:=mulF_eq a b
   unfold mulF at this
   rw[u8n,this]
theorem rinv_gv{w:World}{a:F8}(h:a≠0#8):Gv Tryz.prog 121 #[.int .u8 (a.toNat:Int)] (.tuple #[.int .u8 ((bIZ a).toNat:Int),.int .i64 0]) w:=by
 refine culletref02_Inv.run _ _ w ?_
 unfold culletref02_Inv.M
 have hne:a.toNat≠0:=fun e=>h (BitVec.eq_of_toNat_eq (by rw[e];rfl))
 refine aJZ (fun h0=>absurd h0 (by omega)) (fun _=>?_)
 refine auZ (d:=.one (.at (.int .u8))) (x:=((ahZ a a).toNat:Int)) (rmul_gv a a) fun w1 hx1=>?_
 unfold culletref02_Inv.l1
 refine acZ (fun st w'=>∃(i:Nat) (p two:F8),st=((two.toNat:Int),(p.toNat:Int),(i:Int),())∧i≤7∧invP (7-i) p two=bIZ a∧Ex w w') (fun st _=>(7-st.2.2.1).toNat) ?_ ⟨0,1#8,ahZ a a,rfl,by omega,invP_eq h,hx1⟩
 rintro k _ w2 ⟨i,p,two,rfl,hi,hinv,hx2⟩ hk
 unfold culletref02_Inv.b1
 dsimp only at hk ⊢
 refine abZ (fun hlt=>?_) (fun hge=>?_)
 ·refine auZ (d:=.one (.at (.int .u8))) (x:=((ahZ p two).toNat:Int)) (rmul_gv p two) fun w3 hx3=>?_
  refine auZ (d:=.one (.at (.int .u8))) (x:=((ahZ two two).toNat:Int)) (rmul_gv two two) fun w4 hx4=>?_
  rw[adZ (by omega) (by omega),show(i:Int)+1=((i+1:Nat):Int) by omega]
  refine hk _ _ ⟨i+1,ahZ p two,ahZ two two,rfl,by omega,?_,(hx2.trans hx3).trans hx4⟩ (by dsimp only;omega)
  rw[show 7-i=(7-(i+1))+1 by omega]at hinv
  exact hinv
 ·have hi7:i=7:=by omega
  subst hi7
  have hinv:p=bIZ a:=hinv
  exact⟨by rw[hinv],hx2⟩
theorem rdiv_gv{w:World}{a b:F8}(h:b≠0#8):Gv Tryz.prog 124 #[.int .u8 (a.toNat:Int),.int .u8 (b.toNat:Int)] (.tuple #[.int .u8 ((ahZ a (bIZ b)).toNat:Int),.int .i64 0]) w:=by
 refine culletref02_Div.run _ _ _ w ?_
 unfold culletref02_Div.M
 refine auZ (d:=.tup [.at (.int .u8),.at (.int .i64)]) (x:=(((bIZ b).toNat:Int),0,())) (rinv_gv h) fun w1 hx1=>?_
 refine aEZ (fun h=>absurd rfl h) (fun _=>?_)
 refine auZ (d:=.one (.at (.int .u8))) (x:=((ahZ a (bIZ b)).toNat:Int)) (rmul_gv a (bIZ b)) fun w2 hx2=>?_
 exact⟨rfl,hx1.trans hx2⟩
theorem bx_bf{s l:Nat}(hs:s<256)(hl:l<256):bXor .u8 (IntKind.wrap .u8 (s:Int)) (IntKind.wrap .u8 (l:Int))=((bf s ^^^ bf l).toNat:Int):=by
 rw[u8n,u8n]
 exact bXor_f8 _ _
theorem weight_gv{w:World}{f:Int}{k s:Nat}(hk:k≤256)(hs:s<256):Gv Tryz.prog 122 #[.int .i64 f,.int .i64 (k:Int),.int .i64 (s:Int)] (.int .u8 ((wgt f k s).toNat:Int)) w:=by
 refine culletref11_weight.run _ _ _ _ w ?_
 unfold culletref11_weight.M
 refine aJZ (fun h1=>?_) (fun h1=>?_)
 ·unfold culletref11_weight.l1
  refine acZ (fun st w'=>∃l:Nat,st=((k:Int),(s:Int),((pf 1#8 s (fun l=>bf s ^^^ bf l) l).toNat:Int),(l:Int),())∧l≤k∧Ex w w') (fun st _=>((k:Int)-st.2.2.2.1).toNat) ?_ ⟨0,rfl,Nat.zero_le _,Ex.refl _⟩
  rintro q _ w1 ⟨l,rfl,hl,hx⟩ hq
  unfold culletref11_weight.b1
  dsimp only at hq ⊢
  refine abZ (fun hlt=>?_) (fun hge=>?_)
  ·have nxt:∀{w':World} {p:Int},p=((pf 1#8 s (fun l=>bf s ^^^ bf l) (l+1)).toNat:Int)→Ex w w'→culletref11_weight.j2 (fun e w2=>e=Ending.returned (.int .u8 ((wgt f k s).toNat:Int))∧Ex w w2) q (k:Int) (s:Int) p (l:Int) w':=by
    rintro w' _ rfl hx'
    unfold culletref11_weight.j2
    rw[adZ (by omega) (by omega),show(l:Int)+1=((l+1:Nat):Int) by omega]
    exact hq _ _ ⟨l+1,rfl,by omega,hx'⟩ (by dsimp only;omega)
   refine aEZ (fun hne=>?_) (fun he=>?_)
   ·rw[bx_bf hs (by omega)]
    refine auZ (d:=.one (.at (.int .u8))) (x:=((ahZ (pf 1#8 s (fun l=>bf s ^^^ bf l) l) (bf s ^^^ bf l)).toNat:Int)) (rmul_gv _ _) fun w2 hx2=>nxt ?_ (hx.trans hx2)
    simp only[pf]
    rw[if_neg (by omega)]
   ·refine nxt ?_ hx
    simp only[pf]
    rw[if_pos (by omega)]
  ·have hlk:l=k:=by omega
   subst hlk
   unfold culletref11_weight.j1
   refine⟨?_,hx⟩
   unfold wgt
   rw[if_pos h1]
 ·unfold culletref11_weight.j1
  refine⟨?_,Ex.refl _⟩
  unfold wgt
  rw[if_neg h1]
  rfl
end Go.Proofs.YtbiilejgfihohaaGreat
namespace Go.Proofs.YtbiilejgfihohaaGreat
open Go Go.Cu Go.RowKit
theorem rowR_len(f:Int)(k:Nat)(P:List Nat)(x:Nat):(rowR f k P x).length=k:=by unfold rowR;rw[List.length_map,List.length_range]
theorem rowR_at{f:Int}{k:Nat}{P:List Nat}{x i:Nat}(hi:i<k):(rowR f k P x)[i]? =some (rowE f k P x i):=by unfold rowR;rw[List.getElem?_map,List.getElem?_range hi];rfl
theorem rdS_natH{w:World}{S:World→Prop}{s:Sl}{L:List Nat}{ik:IntKind}{i x:Nat}{K:Int→World→Prop}(hr:Rds aOZ w s L)(hx:L[i]? =some x)(hS:∀w',S w'→Rds aOZ w' s L)(hk:K (x:Int) w):
  Pu Tryz.prog (Instr.indexAt 25 (.slice s.base s.len s.cap) (.int ik (i:Int))) (.one (.at .addr)) (fun a w1=>RdS Tryz.prog S (Instr.loadAt 3 (.pointer (some a))) (.one (.at (.int .i64))) K w1) w:=by
 have hlt:=(List.getElem?_eq_some_iff.1 hx).1
 refine Pu_idxB hr tI sI (by omega) (by omega) fun a2 y2 ha2 hy2=>?_
 rw[Int.toNat_natCast,hx]at hy2
 cases hy2
 exact RdS_one (c:=.int .i64) (x:=(x:Int)) (by kernel_rfl) (fun v hv=>(show _=some (aOZ x) from rds_at (f:=aOZ) (hS v hv) ha2 hx)) hk
theorem rrow_ok{w:World}{f:Int}{k x:Nat}{su:Sl}{P:List Nat}(hr:Rds aOZ w su P)(hl:P.length=k)(hk:k≤256)(hd:P.Nodup)(hu:∀u∈P,u<256)(hx:x<256):
  Cl Tryz.prog 101 #[.int .i64 f,.int .i64 (k:Int),.slice su.base su.len su.cap,.int .i64 (x:Int)] (.one (.at .sl)) (fun s w'=>Own f8v 5 w.heap.size w' s (rowR f k P x)∧Ex w w') w:=by
 refine culletref11_Row.run _ _ _ _ _ w ?_
 generalize hRR:(fun(e:Ending) (w':World)=>∃s:Sl,e=.returned ((Sh.one (.at .sl)).enc s)∧Own f8v 5 w.heap.size w' s (rowR f k P x)∧Ex w w')=R
 unfold culletref11_Row.M
 refine bOZ (f:=f8v) (z:=0#8) tB iB rfl k (by omega) (by omega) rfl rfl fun row w1 hrow hB1 hx1=>?_
 have hO1:Own f8v 5 w.heap.size w1 row (List.replicate k 0#8):=by rw[hrow];exact blZ (by simp) (by omega) hB1 (Nat.le_refl _)
 clear hrow hB1
 refine auZ (d:=.one (.at (.int .u8))) (x:=((wgt f k x).toNat:Int)) (weight_gv hk hx) fun w2 hx2=>?_
 refine auZ (d:=.tup [.at (.int .u8),.at (.int .i64)]) (x:=(((bIZ (wgt f k x)).toNat:Int),0,())) (rinv_gv (wgt_ne hk hx)) fun w3 hx3=>?_
 have hPu:∀i,i<k→P.getD i 0<256:=fun i hi=>hu _ (by rw[List.getD_eq_getElem?_getD,List.getElem?_eq_getElem (by omega)];exact List.getElem_mem _)
 have hPa:∀i,i<k→P[i]? =some (P.getD i 0):=fun i hi=>by rw[List.getD_eq_getElem?_getD,List.getElem?_eq_getElem (by omega)];rfl
 have hinj:∀i j,i<k→j<k→bf (P.getD i 0)=bf (P.getD j 0)→i=j:=by
  intro i j hi hj e
  have e2:=bf_inj (hPu i hi) (hPu j hj) e
  rw[List.getD_eq_getElem?_getD,List.getD_eq_getElem?_getD,List.getElem?_eq_getElem (by omega),List.getElem?_eq_getElem (by omega)]at e2
  exact(List.getElem_inj hd).1 e2
 unfold culletref11_Row.l1
 refine acZ (fun st w'=>∃i:Nat,st=(f,(k:Int),su,(x:Int),row,((bIZ (wgt f k x)).toNat:Int),(i:Int),())∧i≤k∧Own f8v 5 w.heap.size w' row ((rowR f k P x).take i++(List.replicate k 0#8).drop i)∧Ex w w') (fun st _=>((k:Int)-st.2.2.2.2.2.2.1).toNat) ?_
  ⟨0,rfl,Nat.zero_le _,by simpa using (hO1.ex hx2).ex hx3,(hx1.trans hx2).trans hx3⟩
 rintro q1 _ w4 ⟨i,rfl,hi,hO4,hx4⟩ hq1
 unfold culletref11_Row.b1
 dsimp only at hq1 ⊢
 refine abZ (fun hlt=>?_) (fun hge=>?_)
 ·have hik:i<k:=by omega
  refine rd_nat (hr.ex hx4) (hPa i hik) ?_
  refine auZ (d:=.one (.at (.int .u8))) (x:=((wgt f k (P.getD i 0)).toNat:Int)) (weight_gv hk (hPu i hik)) fun w5 hx5=>?_
  refine auZ (d:=.one (.at (.int .u8))) (x:=((ahZ (wgt f k (P.getD i 0)) (bIZ (wgt f k x))).toNat:Int)) (rmul_gv _ _) fun w6 hx6=>?_
  generalize hc0:ahZ (wgt f k (P.getD i 0)) (bIZ (wgt f k x))=c0
  have hx46:=hx5.trans hx6
  unfold culletref11_Row.l2
  refine acZ (fun st w'=>∃l:Nat,st=(f,(k:Int),su,(x:Int),row,((bIZ (wgt f k x)).toNat:Int),(i:Int),((pf c0 i (fun l=>bf x ^^^ bf (P.getD l 0)) l).toNat:Int),((pf 1#8 i (fun l=>bf (P.getD i 0) ^^^ bf (P.getD l 0)) l).toNat:Int),(l:Int),())∧l≤k∧Ex w4 w') (fun st _=>((k:Int)-st.2.2.2.2.2.2.2.2.2.1).toNat) ?_
   ⟨0,rfl,Nat.zero_le _,hx46⟩
  rintro q2 _ w7 ⟨l,rfl,hl',hx7⟩ hq2
  unfold culletref11_Row.b2
  dsimp only at hq2 ⊢
  refine abZ (fun hlt2=>?_) (fun hge2=>?_)
  ·have hlk:l<k:=by omega
   have nxt:∀{w':World} {tp lw:Int},tp=((pf c0 i (fun l=>bf x ^^^ bf (P.getD l 0)) (l+1)).toNat:Int)→lw=((pf 1#8 i (fun l=>bf (P.getD i 0) ^^^ bf (P.getD l 0)) (l+1)).toNat:Int)→Ex w4 w'→
     culletref11_Row.j1 R q1 q2 f (k:Int) su (x:Int) row ((bIZ (wgt f k x)).toNat:Int) (i:Int) tp lw (l:Int) w':=by
    rintro w' _ _ rfl rfl hx'
    unfold culletref11_Row.j1
    rw[adZ (by omega) (by omega),show(l:Int)+1=((l+1:Nat):Int) by omega]
    exact hq2 _ _ ⟨l+1,rfl,by omega,hx'⟩ (by dsimp only;omega)
   refine aEZ (fun hne=>?_) (fun he=>?_)
   ·refine rd_nat ((hr.ex hx4).ex hx7) (hPa l hlk) ?_
    rw[bx_bf hx (hPu l hlk)]
    refine auZ (d:=.one (.at (.int .u8))) (x:=((ahZ (pf c0 i (fun l=>bf x ^^^ bf (P.getD l 0)) l) (bf x ^^^ bf (P.getD l 0))).toNat:Int)) (rmul_gv _ _) fun w8 hx8=>?_
    have hd8:=Ex.drew w8
    have hr8:=(((hr.ex hx4).ex hx7).ex hx8).ex hd8
    refine asZ (fun w'=>Rds aOZ w' su P) hr8 ?_
    refine rdS_natH hr8 (hPa i hik) (fun w' h=>h) ?_
    refine rdS_natH hr8 (hPa l hlk) (fun w' h=>h) ?_
    rw[bx_bf (hPu i hik) (hPu l hlk)]
    refine auZ (d:=.one (.at (.int .u8))) (x:=((ahZ (pf 1#8 i (fun l=>bf (P.getD i 0) ^^^ bf (P.getD l 0)) l) (bf (P.getD i 0) ^^^ bf (P.getD l 0))).toNat:Int)) (rmul_gv _ _) fun w9 hx9=>?_
    refine⟨hr8.ex hx9,nxt ?_ ?_ (((hx7.trans hx8).trans hd8).trans hx9)⟩
    ·simp only[pf];rw[if_neg (by omega)]
    ·simp only[pf];rw[if_neg (by omega)]
   ·refine nxt ?_ ?_ hx7
    ·simp only[pf];rw[if_pos (by omega)]
    ·simp only[pf];rw[if_pos (by omega)]
  ·have hlk:l=k:=by omega
   subst hlk
   have hlow:pf 1#8 i (fun j=>bf (P.getD i 0) ^^^ bf (P.getD j 0)) l≠0#8:=pf_ne fun j hj hji e=>hji (hinj j i hj hik (aMZ e).symm)
   refine auZ (d:=.tup [.at (.int .u8),.at (.int .i64)]) (x:=(((ahZ (pf c0 i (fun j=>bf x ^^^ bf (P.getD j 0)) l) (bIZ (pf 1#8 i (fun j=>bf (P.getD i 0) ^^^ bf (P.getD j 0)) l))).toNat:Int),0,())) (rdiv_gv hlow) fun w8 hx8=>?_
   have hre:ahZ (pf c0 i (fun j=>bf x ^^^ bf (P.getD j 0)) l) (bIZ (pf 1#8 i (fun j=>bf (P.getD i 0) ^^^ bf (P.getD j 0)) l))=rowE f l P x i:=by rw[←hc0];rfl
   rw[hre]
   have hO8:=(hO4.ex hx7).ex hx8
   have hcl:((rowR f l P x).take i++(List.replicate l 0#8).drop i).length=l:=by rw[List.length_append,List.length_take,List.length_drop,rowR_len,List.length_replicate];omega
   refine Wu_set (f:=f8v) (x:=rowE f l P x i) (i:=i) hO8 (by omega) tB sB sB rfl rfl fun w9 hO9 hm9=>?_
   rw[stepG (by rw[rowR_len,List.length_replicate]) (rowR_at hik)]at hO9
   rw[adZ (by omega) (by omega),show(i:Int)+1=((i+1:Nat):Int) by omega]
   exact hq1 _ _ ⟨i+1,rfl,by omega,hO9,((hx4.trans hx7).trans hx8).into hm9 (fun b hb=>(hO8.base b hb).1)⟩ (by dsimp only;omega)
 ·have hik:i=k:=by omega
  subst hik
  rw[List.take_of_length_le (by rw[rowR_len];exact Nat.le_refl _),List.drop_of_length_le (by rw[List.length_replicate];exact Nat.le_refl _),List.append_nil]at hO4
  subst hRR
  exact⟨row,rfl,hO4,hx4⟩
theorem rupTo_ok{w:World}{n:Nat}(hn:n≤256):Cl Tryz.prog 100 #[.int .i64 (n:Int)] (.one (.at .sl)) (fun s w'=>Own aOZ 3 w.heap.size w' s (List.range n)∧Ex w w') w:=by
 refine culletref11_upTo.run _ _ w ?_
 unfold culletref11_upTo.M
 refine bOZ (f:=aOZ) (z:=0) tI iI rfl n (by omega) (by omega) rfl rfl fun row w1 hrow hB1 hx1=>?_
 have hO1:Own aOZ 3 w.heap.size w1 row (List.replicate n 0):=by rw[hrow];exact blZ (by simp) (by omega) hB1 (Nat.le_refl _)
 unfold culletref11_upTo.l1
 refine acZ (fun st w'=>∃i:Nat,st=((n:Int),row,(i:Int),())∧i≤n∧Own aOZ 3 w.heap.size w' row ((List.range n).take i++(List.replicate n 0).drop i)∧Ex w w') (fun st _=>((n:Int)-st.2.2.1).toNat) ?_
  ⟨0,rfl,Nat.zero_le _,by simpa using hO1,hx1⟩
 rintro q _ w2 ⟨i,rfl,hi,hO2,hx2⟩ hq
 unfold culletref11_upTo.b1
 dsimp only at hq ⊢
 refine abZ (fun hlt=>?_) (fun hge=>?_)
 ·have hcl:((List.range n).take i++(List.replicate n 0).drop i).length=n:=by rw[List.length_append,List.length_take,List.length_drop,List.length_range,List.length_replicate];omega
  refine Wu_set (f:=aOZ) (x:=i) (i:=i) hO2 (by omega) tI sI sI rfl rfl fun w3 hO3 hm3=>?_
  rw[stepG (by simp) (by rw[List.getElem?_range (by omega)])]at hO3
  rw[adZ (by omega) (by omega),show(i:Int)+1=((i+1:Nat):Int) by omega]
  exact hq _ _ ⟨i+1,rfl,by omega,hO3,hx2.into hm3 (fun b hb=>(hO2.base b hb).1)⟩ (by dsimp only;omega)
 ·have hik:i=n:=by omega
  subst hik
  rw[List.take_of_length_le (by rw[List.length_range];exact Nat.le_refl _),List.drop_of_length_le (by rw[List.length_replicate];exact Nat.le_refl _),List.append_nil]at hO2
  exact⟨row,rfl,hO2,hx2⟩
def parE(f k m:Int):Int:=if f≠0∧f≠1 then 2 else if k<1∨m<1∨k>256∨m>256∨k+m>256 then 4 else 0
theorem rparams_gv{w:World}{f k m:Int}(hk:I64 k)(hm:I64 m):Gv Tryz.prog 76 #[.int .i64 f,.int .i64 k,.int .i64 m] (.int .i64 (parE f k m)) w:=by
 refine culletref11_Params.run _ _ _ _ w ?_
 have hx:=Ex.refl w
 obtain⟨k1,k2⟩:=hk
 obtain⟨m1,m2⟩:=hm
 unfold culletref11_Params.M
 have last:∀t:Bool,f=0∨f=1→(t=true↔(k<1∨m<1∨k>256∨m>256∨k+m>256))→culletref11_Params.j2 (fun e w2=>e=Ending.returned (.int .i64 (parE f k m))∧Ex w w2) t w:=by
  intro t hf ht
  have hf':¬(f≠0∧f≠1):=by omega
  unfold culletref11_Params.j2 parE
  rw[if_neg hf']
  refine Cd_of (fun h=>?_) (fun h=>?_)
  ·rw[if_pos (ht.1 h)];exact⟨rfl,hx⟩
  ·rw[if_neg (fun h2=>by rw[ht.2 h2]at h;cases h)];exact⟨rfl,hx⟩
 have go:∀t:Bool,(t=true↔(f≠0∧f≠1))→culletref11_Params.j1 (fun e w2=>e=Ending.returned (.int .i64 (parE f k m))∧Ex w w2) k m t w:=by
  intro t ht
  unfold culletref11_Params.j1
  refine Cd_of (fun h=>?_) (fun h=>?_)
  ·refine⟨?_,hx⟩
   unfold parE
   rw[if_pos (ht.1 h)]
  ·have hf:f=0∨f=1:=by
    by_cases h0:f=0
    ·exact .inl h0
    ·by_cases h1:f=1
     ·exact .inr h1
     ·rw[ht.2 ⟨h0,h1⟩]at h;cases h
   refine abZ (fun h1=>last _ hf (by simp;omega)) (fun h1=>?_)
   refine abZ (fun h2=>last _ hf (by simp;omega)) (fun h2=>?_)
   refine abZ (fun h3=>last _ hf (by simp;omega)) (fun h3=>?_)
   refine abZ (fun h4=>last _ hf (by simp;omega)) (fun h4=>?_)
   rw[adZ (by omega) (by omega)]
   exact last _ hf (by simp;omega)
 refine aEZ (fun h0=>go _ ?_) (fun h0=>go _ ?_)
 ·simp[h0]
 ·simp[h0]
theorem rparity_ok{w:World}{f:Int}{k m:Nat}(hf:f=0∨f=1)(hk1:1≤k)(hm1:1≤m)(hkm:k+m≤256):
  Cl Tryz.prog 77 #[.int .i64 f,.int .i64 (k:Int),.int .i64 (m:Int)] (.tup [.at .sl,.at (.int .i64)]) (fun x w'=>x.2.1=0∧Ex w w') w:=by
 refine culletref11_Parity.run _ _ _ _ w ?_
 unfold culletref11_Parity.M
 have hpe:parE f (k:Int) (m:Int)=0:=by unfold parE;rw[if_neg (by omega),if_neg (by omega)]
 refine auZ (d:=.one (.at (.int .i64))) (x:=parE f (k:Int) (m:Int)) (rparams_gv (by constructor <;> omega) (by constructor <;> omega)) fun w1 hx1=>?_
 rw[hpe]
 refine aEZ (fun h=>absurd rfl h) (fun _=>?_)
 refine aeZ (rupTo_ok (by omega)) ?_
 rintro sd w2 ⟨hO2,hx2⟩
 have hx12:=hx1.trans hx2
 unfold culletref11_Parity.l1
 refine acZ (fun st w'=>∃(j:Nat) (rs:Sl) (l:List Sl),st=(f,(k:Int),(m:Int),rs,sd,(j:Int),())∧j≤m∧l.length=j∧Own slV 24 w2.heap.size w' rs l∧Ex w2 w') (fun st _=>((m:Int)-st.2.2.2.2.2.1).toNat) ?_
  ⟨0,⟨none,0,0⟩,[],rfl,Nat.zero_le _,rfl,Own.nil _ _ _ _,Ex.refl _⟩
 rintro q _ w3 ⟨j,rs,l,rfl,hj,hl,hO3,hx3⟩ hq
 unfold culletref11_Parity.b1
 dsimp only at hq ⊢
 refine abZ (fun hlt=>?_) (fun hge=>?_)
 ·rw[adZ (by omega) (by omega),show(k:Int)+(j:Int)=((k+j:Nat):Int) by omega]
  refine aeZ (rrow_ok (hO2.rds.ex hx3) List.length_range (by omega) List.nodup_range (fun u hu=>by have:=List.mem_range.1 hu;omega) (by omega)) ?_
  rintro sr w4 ⟨_,hx4⟩
  refine bvZ (f:=slV) (e:=24) (base:=w4.heap.size) [sr] (by kernel_rfl) (Nat.le_refl _) (by simp) fun s5 w5 ho5 hx5 _=>?_
  have hx35:=hx4.trans hx5
  have hO5:=hO3.ex hx35
  refine aGZ (f:=slV) (base:=w2.heap.size) tBB iS rfl hO5 ho5.rds (fun _=>rfl) (by rw[hl];simp;omega) (by rw[hl];simp;omega) (Nat.le_trans hx3.size hx35.size) fun rs' w6 ho6 hm6 _=>?_
  rw[adZ (by omega) (by omega),show(j:Int)+1=((j+1:Nat):Int) by omega]
  exact hq _ _ ⟨j+1,rs',l++[sr],rfl,by omega,by simp[hl],ho6,(hx3.trans hx35).into hm6 (fun b hb=>(hO5.base b hb).1)⟩ (by dsimp only;omega)
 ·exact⟨(rs,0,()),rfl,rfl,hx12.trans hx3⟩
def newE(f b k m:Int):Int:=if f≠0∧f≠1 then 2 else if b<0∨b>2 then 3 else parE f k m
theorem rnew_ok{W0 w:World}{T:Ths}(kc:Ky){f b k m:Int}(hS:Sep W0 w T)(hk:I64 k)(hm:I64 m):
  Cl Tryz.prog 49 #[.int .i64 f,.int .i64 b,.int .i64 k,.int .i64 m] (.tup [.at .ptr,.at (.int .i64)]) (fun x w'=>(newE f b k m≠0∧x=(none,newE f b k m,())∧Sep W0 w' T)∨
   (newE f b k m=0∧∃g p,x=(at0 g,0,())∧Sep W0 w' (T.up kc (Cel g [.int .i64 f,.int .i64 k,.int .i64 m,slV p,slV ⟨none,0,0⟩] 103)))) w:=by
 refine culletref17_New.run _ _ _ _ _ w ?_
 generalize hRR:(fun(e:Ending) (w':World)=>∃x:Option Addr×Int×Unit,e=.returned ((Sh.tup [.at .ptr,.at (.int .i64)]).enc x)∧((newE f b k m≠0∧x=(none,newE f b k m,())∧Sep W0 w' T)∨
   (newE f b k m=0∧∃g p,x=(at0 g,0,())∧Sep W0 w' (T.up kc (Cel g [.int .i64 f,.int .i64 k,.int .i64 m,slV p,slV ⟨none,0,0⟩] 103)))))=R
 have bad:∀{w':World},newE f b k m≠0→Sep W0 w' T→R (.returned (.tuple #[.pointer none,.int .i64 (newE f b k m)])) w':=fun h1 h2=>by subst hRR;exact⟨(none,newE f b k m,()),rfl,.inl ⟨h1,rfl,h2⟩⟩
 unfold culletref17_New.M
 have two:∀t:Bool,f=0∨f=1→(t=true↔(b<0∨b>2))→culletref17_New.j2 R f k m none t w:=by
  intro t hf ht
  have hf':¬(f≠0∧f≠1):=by omega
  unfold culletref17_New.j2
  refine Cd_of (fun h=>?_) (fun h=>?_)
  ·have e:newE f b k m=3:=by unfold newE;rw[if_neg hf',if_pos (ht.1 h)]
   have:=bad (w':=w) (by rw[e];decide) hS
   rw[e]at this
   exact this
  ·have e:newE f b k m=parE f k m:=by unfold newE;rw[if_neg hf',if_neg (fun h2=>by rw[ht.2 h2]at h;cases h)]
   refine auZ (d:=.one (.at (.int .i64))) (x:=parE f k m) (rparams_gv hk hm) fun w1 hx1=>?_
   refine aEZ (fun hne=>?_) (fun h0=>?_)
   ·have:=bad (w':=w1) (by rw[e];exact hne) (hS.exx hx1)
    rw[e]at this
    exact this
   ·have hkm:1≤k∧1≤m∧k+m≤256:=by
     unfold parE at h0
     rw[if_neg hf']at h0
     split at h0
     ·cases h0
     ·omega
    obtain⟨kn,rfl⟩:∃n:Nat,k=(n:Int):=⟨k.toNat,by omega⟩
    obtain⟨mn,rfl⟩:∃n:Nat,m=(n:Int):=⟨m.toNat,by omega⟩
    refine aeZ (rparity_ok hf (by omega) (by omega) (by omega)) ?_
    rintro⟨p,e0,_⟩ w2 ⟨_,hx2⟩
    dsimp only
    refine bcZ fun w3 hB3 hx3=>?_
    have hS3:=((hS.exx hx1).exx hx2).box kc hx3 hB3
    subst hRR
    exact⟨(at0 w2.heap.size,0,()),rfl,.inr ⟨by rw[e,h0],w2.heap.size,p,rfl,hS3⟩⟩
 have one:∀t:Bool,(t=true↔(f≠0∧f≠1))→culletref17_New.j1 R f b k m none t w:=by
  intro t ht
  unfold culletref17_New.j1
  refine Cd_of (fun h=>?_) (fun h=>?_)
  ·have e:newE f b k m=2:=by unfold newE;rw[if_pos (ht.1 h)]
   have:=bad (w':=w) (by rw[e];decide) hS
   rw[e]at this
   exact this
  ·have hf:f=0∨f=1:=by
    by_cases h0:f=0
    ·exact .inl h0
    ·by_cases h1:f=1
     ·exact .inr h1
     ·rw[ht.2 ⟨h0,h1⟩]at h;cases h
   refine abZ (fun h1=>two _ hf (by simp;omega)) (fun h1=>two _ hf (by simp;omega))
 refine aEZ (fun h0=>one _ ?_) (fun h0=>one _ ?_)
 ·simp[h0]
 ·simp[h0]
end Go.Proofs.YtbiilejgfihohaaGreat
namespace Go.Proofs.YtbiilejgfihohaaGreat
open Go Go.Cu Go.RowKit
theorem bmZ{W0 w:World}{T:Ths}{s:Sl}{hs:List Sl}{M:Mtx}(hS:Sep W0 w T)(h:MatR W0 s hs M):MatR w s hs M:=⟨hS.old h.hdr,h.len,fun i g r h1 h2=>hS.old (h.row i g r h1 h2)⟩
theorem named_gv{w:World}{s:Sl}{L:List Nat}{x:Nat}(hr:Rds aOZ w s L)(hl:L.length≤140737488355328):Gv Tryz.prog 147 #[.slice s.base s.len s.cap,.int .i64 (x:Int)] (.bool (decide (x∈L))) w:=by
 refine culletref17_named.run _ _ _ w ?_
 unfold culletref17_named.M culletref17_named.l1
 have hsl:=hr.1
 refine acZ (fun st w'=>∃i:Nat,st=(s,(x:Int),(i:Int),())∧i≤L.length∧Ex w w'∧x∉L.take i) (fun st _=>((s.len:Nat):Int)-st.2.2.1 |>.toNat) ?_ ⟨0,rfl,Nat.zero_le _,Ex.refl _,by simp⟩
 rintro k _ w1 ⟨i,rfl,hi,hx,hn⟩ hk
 unfold culletref17_named.b1
 dsimp only at hk ⊢
 refine abZ (fun hlt=>?_) (fun hge=>?_)
 ·obtain⟨y,hy⟩:=atx (l:=L) (i:=i) (by omega)
  refine rd_nat (hr.ex hx) hy ?_
  refine aJZ (fun he=>⟨?_,hx⟩) (fun hne=>?_)
  ·rw[decide_eq_true (by rw[←show y=x by omega];exact List.mem_of_getElem? hy)]
  ·rw[adZ (by omega) (by omega),show(i:Int)+1=((i+1:Nat):Int) by omega]
   refine hk _ _ ⟨i+1,rfl,by omega,hx,?_⟩ (by dsimp only;omega)
   rw[List.take_add_one,hy,List.mem_append]
   rintro(h | h)
   ·exact hn h
   ·have:x=y:=by simpa using h
    omega
 ·rw[List.take_of_length_le (by omega)]at hn
  exact⟨by rw[decide_eq_false hn],hx⟩
theorem rsame_gv{w:World}{a b:Sl}{x y:List Nat}(ha:Rds aOZ w a x)(hb:Rds aOZ w b y)(hl:x.length≤1048576):Gv Tryz.prog 148 #[.slice a.base a.len a.cap,.slice b.base b.len b.cap] (.bool (decide (x=y))) w:=by
 refine culletref17_same.run _ a b w ?_
 unfold culletref17_same.M
 have e1:=ha.1
 have e2:=hb.1
 refine aEZ (fun h=>⟨?_,Ex.refl _⟩) (fun h=>?_)
 ·rw[decide_eq_false (fun e=>h (by rw[e1,e2,e]))]
 have hxy:x.length=y.length:=by omega
 unfold culletref17_same.l1
 refine acZ (fun st w'=>∃i:Nat,st=(a,b,(i:Int),())∧i≤x.length∧Ex w w'∧∀j,j<i→x[j]? =y[j]?) (fun st _=>(((a.len:Nat):Int)-st.2.2.1).toNat) ?_ ⟨0,rfl,Nat.zero_le _,Ex.refl _,fun j h=>by omega⟩
 rintro k _ w1 ⟨i,rfl,hi,hx,heq⟩ hk
 unfold culletref17_same.b1
 dsimp only at hk ⊢
 refine abZ (fun hlt=>?_) (fun hge=>?_)
 ·obtain⟨p,hp⟩:=atx (l:=x) (i:=i) (by omega)
  obtain⟨q,hq⟩:=atx (l:=y) (i:=i) (by omega)
  have hx2:=hx.trans (Ex.drew w1)
  refine rdS_natH (ha.ex hx2) hp (fun v hv=>by cases hv;exact ha.ex hx2) ?_
  refine rdS_natH (hb.ex hx2) hq (fun v hv=>by cases hv;exact hb.ex hx2) ?_
  refine aEZ (fun hne=>⟨?_,hx2⟩) (fun he=>?_)
  ·rw[decide_eq_false (fun e=>hne (by rw[e,hq]at hp;rw[Option.some.inj hp]))]
  ·have hpq:p=q:=by omega
   rw[adZ (by omega) (by omega),show(i:Int)+1=((i+1:Nat):Int) by omega]
   refine hk _ _ ⟨i+1,rfl,by omega,hx2,fun j hj=>?_⟩ (by dsimp only;omega)
   by_cases hji:j=i
   ·rw[hji,hp,hq,hpq]
   ·exact heq j (by omega)
 ·refine⟨?_,hx⟩
  rw[decide_eq_true (List.ext_getElem? fun j=>?_)]
  by_cases hj:j<i
  ·exact heq j hj
  ·rw[List.getElem?_eq_none (by omega),List.getElem?_eq_none (by omega)]
abbrev rcV(f:Int)(k m:Nat)(p rs:Sl):List Value:=[.int .i64 f,.int .i64 (k:Int),.int .i64 (m:Int),slV p,slV rs]
theorem lost_succ(i:Nat)(L:List Nat):aIZ (i+1) L=aIZ i L++(if i∈L then [] else [i]):=by
 unfold aIZ
 rw[List.range_succ,List.filter_append]
 congr 1
 by_cases h:i∈L <;> simp[h]
theorem lost_more(i n:Nat)(L:List Nat)(h:i≤n):∃r,aIZ n L=aIZ i L++r:=by
 obtain⟨d,rfl⟩:∃d,n=i+d:=⟨n-i,by omega⟩
 induction d with
 | zero=>exact⟨[],by simp⟩
 | succ d ih=>
  obtain⟨r,hr⟩:=ih (by omega)
  exact⟨r++(if i+d∈L then [] else [i+d]),by rw[←Nat.add_assoc,lost_succ,hr,List.append_assoc]⟩
theorem used_ok{w:World}{g:Nat}{f:Int}{k m:Nat}{p rs s:Sl}{L:List Nat}(hB:Has w g (rcV f k m p rs) 103)(hr:Rds aOZ w s L)(hl:L.length≤65536)(hkm:k+m≤256):
  Cl Tryz.prog 130 #[.pointer (at0 g),.slice s.base s.len s.cap] (.one (.at .sl)) (fun x w'=>Own aOZ 3 w.heap.size w' x ((aIZ (k+m) L).take k)∧Ex w w') w:=by
 refine culletref17_Codec_Used.run _ _ _ w ?_
 generalize hRR:(fun(e:Ending) (w':World)=>∃x:Sl,e=.returned ((Sh.one (.at .sl)).enc x)∧Own aOZ 3 w.heap.size w' x ((aIZ (k+m) L).take k)∧Ex w w')=R
 unfold culletref17_Codec_Used.M culletref17_Codec_Used.l1
 refine acZ (fun st w'=>∃(i:Nat) (q:Sl),st=(at0 g,s,q,(i:Int),())∧i≤k+m∧(aIZ i L).length≤k∧Own aOZ 3 w.heap.size w' q (aIZ i L)∧Ex w w') (fun st _=>(((k+m:Nat):Int)-st.2.2.2.1).toNat) ?_
  ⟨0,⟨none,0,0⟩,rfl,Nat.zero_le _,Nat.zero_le _,Own.nil _ _ _ _,Ex.refl _⟩
 rintro q1 _ w1 ⟨i,q,rfl,hi,hll,hO,hx⟩ hq1
 unfold culletref17_Codec_Used.b1
 dsimp only at hq1 ⊢
 have hxd:=hx.trans (Ex.drew w1)
 have hBd:=hB.ex hxd
 have hOd:=hO.ex (Ex.drew w1)
 have hql:=hO.1
 refine agZ (akZ (c:=.int .i64) (x:=(k:Int)) (B:=g) (i:=1) (fun v hv=>by cases hv;exact hBd) (by kernel_rfl) rfl ?_)
 refine agZ (akZ (c:=.int .i64) (x:=(m:Int)) (B:=g) (i:=2) (fun v hv=>by cases hv;exact hBd) (by kernel_rfl) rfl ?_)
 rw[adZ (x:=(k:Int)+(m:Int)) (by omega) (by omega)]
 have done:(aIZ i L).length=k∨i=k+m→culletref17_Codec_Used.j1 R q1 (at0 g) s q (i:Int) false w1.drew:=by
  intro hd
  unfold culletref17_Codec_Used.j1
  refine aAZ ?_
  have e:(aIZ (k+m) L).take k=aIZ i L:=by
   rcases hd with h | h
   ·obtain⟨r,hr'⟩:=lost_more i (k+m) L hi
    rw[hr',List.take_append_of_le_length (by omega),List.take_of_length_le (by omega)]
   ·rw[←h,List.take_of_length_le hll]
  subst hRR
  exact⟨q,rfl,by rw[e];exact hOd,hxd⟩
 refine abZ (fun hlt=>?_) (fun hge=>done (.inr (by omega)))
 refine agZ (akZ (c:=.int .i64) (x:=(k:Int)) (B:=g) (i:=1) (fun v hv=>by cases hv;exact hBd) (by kernel_rfl) rfl ?_)
 by_cases hfull:(aIZ i L).length=k
 ·rw[decide_eq_false (by omega)]
  exact done (.inl hfull)
 rw[decide_eq_true (by omega)]
 unfold culletref17_Codec_Used.j1
 refine Cd_t ?_
 have nxt:∀{w':World} {q':Sl},Own aOZ 3 w.heap.size w' q' (aIZ (i+1) L)→Ex w w'→culletref17_Codec_Used.j2 R q1 (at0 g) s q' (i:Int) w':=by
  intro w' q' h1 h2
  unfold culletref17_Codec_Used.j2
  rw[adZ (by omega) (by omega),show(i:Int)+1=((i+1:Nat):Int) by omega]
  refine hq1 _ _ ⟨i+1,q',rfl,by omega,?_,h1,h2⟩ (by dsimp only;omega)
  rw[lost_succ,List.length_append]
  split <;> simp <;> omega
 refine auZ (d:=.one (.at .bool)) (x:=decide (i∈L)) (named_gv (hr.ex hxd) (by omega)) fun w2 hx2=>?_
 by_cases hm:i∈L
 ·rw[decide_eq_true hm]
  refine aAZ (nxt ?_ (hxd.trans hx2))
  rw[lost_succ,if_pos hm,List.append_nil]
  exact hOd.ex hx2
 ·rw[decide_eq_false hm]
  refine Cd_t ?_
  refine append_one (hOd.ex hx2) (hxd.trans hx2) (by omega) fun q' w3 ho3 hx3=>nxt ?_ hx3
  rw[lost_succ,if_neg hm]
  exact ho3
theorem zer_snoc(l:List Nat)(x:Nat):zerL (l++[x])=zerL l++(if x=0 then [l.length] else []):=by
 unfold zerL
 rw[List.length_append,List.length_singleton,List.range_succ,List.filter_append]
 congr 1
 ·refine List.filter_congr fun j hj=>?_
  rw[List.getElem?_append_left (List.mem_range.1 hj)]
 ·by_cases h:x=0 <;> simp[h]
theorem scan_z{st:Nat×Bool}{x:Nat}(h:x=0):scan st x=st:=by unfold scan;rw[if_pos h]
theorem scan_f{st:Nat×Bool}{x:Nat}(h:x≠0)(h1:st.1=0):scan st x=(x,st.2):=by unfold scan;rw[if_neg h,if_pos h1]
theorem scan_n{st:Nat×Bool}{x:Nat}(h:x≠0)(h1:st.1≠0):scan st x=(st.1,st.2&&decide (st.1=x)):=by unfold scan;rw[if_neg h,if_neg h1]
theorem look_gv{w:World}{s:Sl}{hs:List Sl}(hr:Rds slV w s hs)(hl:hs.length≤140737488355328)(hn:∀h∈hs,h.len≤140737488355328):
  Gv Tryz.prog 146 #[.slice s.base s.len s.cap] (.tuple #[.int .i64 ((zerL (hs.map Sl.len)).length:Int),.int .i64 (if (aBZ (hs.map Sl.len)).2 then ((aBZ (hs.map Sl.len)).1:Int) else -1)]) w:=by
 refine culletref17_look.run _ _ w ?_
 generalize hRR:(fun(e:Ending) (w':World)=>e=.returned (.tuple #[.int .i64 ((zerL (hs.map Sl.len)).length:Int),.int .i64 (if (aBZ (hs.map Sl.len)).2 then ((aBZ (hs.map Sl.len)).1:Int) else -1)])∧Ex w w')=R
 have hsl:=hr.1
 unfold culletref17_look.M culletref17_look.l1
 refine acZ (fun st w'=>∃i:Nat,st=(s,((zerL ((hs.map Sl.len).take i)).length:Int),(if (aBZ ((hs.map Sl.len).take i)).2 then ((aBZ ((hs.map Sl.len).take i)).1:Int) else -1),(i:Int),())∧i≤hs.length∧(zerL ((hs.map Sl.len).take i)).length≤i∧Ex w w') (fun st _=>(((s.len:Nat):Int)-st.2.2.2.1).toNat) ?_
  ⟨0,rfl,Nat.zero_le _,Nat.zero_le _,Ex.refl _⟩
 rintro k _ w1 ⟨i,rfl,hi,hz,hx⟩ hk
 unfold culletref17_look.b1
 dsimp only at hk ⊢
 refine abZ (fun hlt=>?_) (fun hge=>?_)
 ·obtain⟨h,hh⟩:=atx (l:=hs) (i:=i) (by omega)
  refine atZ (hr.ex hx) hh ?_
  have hhn:=hn h (List.mem_of_getElem? hh)
  have htk:(hs.map Sl.len).take (i+1)=(hs.map Sl.len).take i++[h.len]:=by rw[List.take_add_one,List.getElem?_map,hh];rfl
  have htl:((hs.map Sl.len).take i).length=i:=by rw[List.length_take,List.length_map];omega
  generalize (hs.map Sl.len).take i=l at htk htl hk hz ⊢
  have nxt:∀(e n:Int),e=((zerL (l++[h.len])).length:Int)→n=(if (scan (aBZ l) h.len).2 then ((scan (aBZ l) h.len).1:Int) else -1)→culletref17_look.j1 R k s e n (i:Int) w1:=by
   intro e n h1 h2
   unfold culletref17_look.j1
   rw[adZ (x:=(i:Int)+1) (by omega) (by omega),show(i:Int)+1=((i+1:Nat):Int) by omega]
   refine hk _ _ ⟨i+1,by rw[htk,scanL_snoc,h1,h2],by omega,?_,hx⟩ (by dsimp only;omega)
   rw[htk,zer_snoc,List.length_append]
   split <;> simp <;> omega
  generalize aBZ l=st at nxt ⊢
  refine aJZ (fun h0=>?_) (fun h0=>?_)
  ·rw[adZ (by omega) (by omega)]
   refine nxt _ _ ?_ ?_
   ·rw[zer_snoc,if_pos (by omega),List.length_append,List.length_singleton];omega
   ·rw[scan_z (by omega)]
  ·have hze:(zerL (l++[h.len])).length=(zerL l).length:=by rw[zer_snoc,if_neg (by omega),List.append_nil]
   cases hev:st.2 with
   | false=>
    rw[if_neg (by simp)]
    refine aJZ (fun h=>absurd h (by decide)) (fun _=>?_)
    have e:(scan st h.len).2=false:=by
     unfold scan
     rw[if_neg (by omega)]
     split
     ·exact hev
     ·rw[hev];rfl
    refine aEZ (fun _=>nxt _ _ (by rw[hze]) (by rw[e];rfl)) (fun h=>?_)
    exact nxt _ _ (by rw[hze]) (by rw[e];rfl)
   | true=>
    rw[if_pos rfl]
    refine aJZ (fun hz0=>?_) (fun hz0=>aEZ (fun hne=>?_) (fun hee=>?_))
    ·refine nxt _ _ (by rw[hze]) ?_
     rw[scan_f (by omega) (by omega),hev,if_pos rfl]
    ·refine nxt _ _ (by rw[hze]) ?_
     rw[scan_n (by omega) (by omega),decide_eq_false (by omega),Bool.and_false,if_neg (by simp)]
    ·refine nxt _ _ (by rw[hze]) ?_
     rw[scan_n (by omega) (by omega),hev,decide_eq_true (by omega),Bool.and_true,if_pos rfl]
 ·rw[List.take_of_length_le (by rw[List.length_map];omega)]
  subst hRR
  exact⟨rfl,hx⟩
theorem rpartial_ok{w:World}{g:Nat}{f:Int}{k m:Nat}{p rs s:Sl}{hs:List Sl}(hB:Has w g (rcV f k m p rs) 103)(hr:Rds slV w s hs)(hl:hs.length≤140737488355328)(hn:∀h∈hs,h.len≤140737488355328)(hkm:k+m≤256):
  Cl Tryz.prog 129 #[.pointer (at0 g),.slice s.base s.len s.cap] (.tup [.at (.int .i64),.at .sl,.at (.int .i64)]) (fun x w'=>Ex w w'∧((parS k m (hs.map Sl.len)≠0∧x=(0,⟨none,0,0⟩,parS k m (hs.map Sl.len),()))∨
   (parS k m (hs.map Sl.len)=0∧∃se,x=(((aBZ (hs.map Sl.len)).1:Int),se,0,())∧Own aOZ 3 w.heap.size w' se (zerL (hs.map Sl.len))))) w:=by
 refine culletref17_Codec_Partial.run _ _ _ w ?_
 have hsl:=hr.1
 generalize hRR:(fun(e:Ending) (w':World)=>∃x:Int×Sl×Int×Unit,e=.returned ((Sh.tup [.at (.int .i64),.at .sl,.at (.int .i64)]).enc x)∧Ex w w'∧((parS k m (hs.map Sl.len)≠0∧x=(0,⟨none,0,0⟩,parS k m (hs.map Sl.len),()))∨
   (parS k m (hs.map Sl.len)=0∧∃se,x=(((aBZ (hs.map Sl.len)).1:Int),se,0,())∧Own aOZ 3 w.heap.size w' se (zerL (hs.map Sl.len)))))=R
 have bad:∀{w':World} {c:Int},parS k m (hs.map Sl.len)=c→c≠0→Ex w w'→R (.returned (.tuple #[.int .i64 0,.slice none 0 0,.int .i64 c])) w':=by
  intro w' c h1 h2 h3
  subst hRR
  exact⟨(0,⟨none,0,0⟩,c,()),rfl,h3,.inl ⟨by rw[h1];exact h2,by rw[h1]⟩⟩
 have hpe:parS k m (hs.map Sl.len)=(if hs.length≠k+m then 160 else if (aBZ (hs.map Sl.len)).1=0 then 161 else if (aBZ (hs.map Sl.len)).2=false then 162 else if m<(zerL (hs.map Sl.len)).length then 9 else 0):=by unfold parS;rw[List.length_map]
 unfold culletref17_Codec_Partial.M
 have hxd:=Ex.drew w
 have hBd:=hB.ex hxd
 refine agZ (akZ (c:=.int .i64) (x:=(k:Int)) (B:=g) (i:=1) (fun v hv=>by cases hv;exact hBd) (by kernel_rfl) rfl ?_)
 refine agZ (akZ (c:=.int .i64) (x:=(m:Int)) (B:=g) (i:=2) (fun v hv=>by cases hv;exact hBd) (by kernel_rfl) rfl ?_)
 rw[adZ (x:=(k:Int)+(m:Int)) (by omega) (by omega)]
 refine aEZ (fun h=>bad (by rw[hpe,if_pos (by omega)]) (by decide) hxd) (fun h=>?_)
 rw[if_neg (by omega)]at hpe
 refine auZ (d:=.tup [.at (.int .i64),.at (.int .i64)]) (x:=(((zerL (hs.map Sl.len)).length:Int),(if (aBZ (hs.map Sl.len)).2 then ((aBZ (hs.map Sl.len)).1:Int) else -1),())) (look_gv (hr.ex hxd) hl hn) fun w2 hx2=>?_
 dsimp only
 have hx:=hxd.trans hx2
 by_cases h1:(aBZ (hs.map Sl.len)).1=0
 ·rw[if_pos h1]at hpe
  have hev:(aBZ (hs.map Sl.len)).2=true:=by
   have hz:=(scan_zero (hs.map Sl.len) (0,true) h1).2
   have:=scan_one (n:=1) (by omega) (hs.map Sl.len) (0,true) (.inl rfl) (fun x hx=>.inl (hz x hx))
   unfold aBZ
   rcases this with e | e <;> rw[e]
  rw[hev,if_pos rfl]
  exact aJZ (fun _=>bad hpe (by decide) hx) (fun h=>absurd h (by omega))
 rw[if_neg h1]at hpe
 cases hev:(aBZ (hs.map Sl.len)).2 with
 | false=>
  rw[hev,if_pos rfl]at hpe
  rw[if_neg (by simp)]
  exact aJZ (fun h=>absurd h (by decide)) (fun _=>abZ (fun _=>bad hpe (by decide) hx) (fun h=>absurd h (by decide)))
 | true=>
  rw[hev,if_neg (by simp)]at hpe
  rw[if_pos rfl]
  refine aJZ (fun h=>by exfalso;omega) (fun _=>abZ (fun h=>absurd (show(((aBZ (hs.map Sl.len)).1:Nat):Int)<0 from h) (by omega)) (fun _=>?_))
  refine agZ (ajZ (c:=.int .i64) (x:=(m:Int)) (B:=g) (i:=2) (hB.ex hx) (by kernel_rfl) rfl ?_)
  refine abZ (fun h=>bad (by rw[hpe,if_pos (Int.ofNat_lt.1 h)]) (by decide) hx) (fun h=>?_)
  rw[if_neg (fun h'=>h (Int.ofNat_lt.2 h'))]at hpe
  unfold culletref17_Codec_Partial.l1
  refine acZ (fun st w'=>∃(i:Nat) (q:Sl),st=(s,q,((aBZ (hs.map Sl.len)).1:Int),(i:Int),())∧i≤hs.length∧Own aOZ 3 w.heap.size w' q (zerL ((hs.map Sl.len).take i))∧(zerL ((hs.map Sl.len).take i)).length≤i∧Ex w w') (fun st _=>(((s.len:Nat):Int)-st.2.2.2.1).toNat) ?_
   ⟨0,⟨none,0,0⟩,rfl,Nat.zero_le _,Own.nil _ _ _ _,Nat.zero_le _,hx⟩
  rintro kk _ w3 ⟨i,q,rfl,hi,ho,hz,hx3⟩ hk
  unfold culletref17_Codec_Partial.b1
  dsimp only at hk ⊢
  refine abZ (fun hlt=>?_) (fun hge=>?_)
  ·obtain⟨h,hh⟩:=atx (l:=hs) (i:=i) (by omega)
   refine atZ (hr.ex hx3) hh ?_
   have htk:(hs.map Sl.len).take (i+1)=(hs.map Sl.len).take i++[h.len]:=by rw[List.take_add_one,List.getElem?_map,hh];rfl
   have htl:((hs.map Sl.len).take i).length=i:=by rw[List.length_take,List.length_map];omega
   have nxt:∀{w':World} {q':Sl},Own aOZ 3 w.heap.size w' q' (zerL ((hs.map Sl.len).take i)++(if h.len=0 then [i] else []))→Ex w w'→culletref17_Codec_Partial.j1 R kk s q' ((aBZ (hs.map Sl.len)).1:Int) (i:Int) w':=by
    intro w' q' h1 h2
    unfold culletref17_Codec_Partial.j1
    rw[adZ (by omega) (by omega),show(i:Int)+1=((i+1:Nat):Int) by omega]
    refine hk _ _ ⟨i+1,q',rfl,by omega,?_,?_,h2⟩ (by dsimp only;omega)
    ·rw[htk,zer_snoc,htl];exact h1
    ·rw[htk,zer_snoc,List.length_append]
     split <;> simp <;> omega
   refine aJZ (fun h0=>?_) (fun h0=>?_)
   ·refine append_one ho hx3 (by omega) fun q' w4 ho4 hx4=>nxt ?_ hx4
    rw[if_pos (by omega)]
    exact ho4
   ·refine nxt ?_ hx3
    rw[if_neg (by omega),List.append_nil]
    exact ho
  ·rw[List.take_of_length_le (by rw[List.length_map];omega)]at ho
   subst hRR
   exact⟨(_,q,0,()),rfl,hx3,.inr ⟨hpe,q,rfl,ho⟩⟩
end Go.Proofs.YtbiilejgfihohaaGreat
namespace Go.Proofs.YtbiilejgfihohaaGreat
open Go Go.Cu
theorem bzZ{α:Type}{l:List α}{i:Nat}{d x:α}(h:l[i]? =some x):l.getD i d=x:=by rw[List.getD_eq_getElem?_getD,h];rfl
theorem ent_row{M:Mtx}{i t:Nat}{r:List F8}(h:M[i]? =some r):ent M i t=r.getD t 0#8:=by unfold ent;rw[bzZ h]
theorem row_at{M:Mtx}{n w i:Nat}(h:Shp M n w)(hi:i<n):∃r,M[i]? =some r∧r.length=w:=by
 obtain⟨r,hr⟩:=(⟨_,List.getElem?_eq_getElem (by rw[h.1];exact hi)⟩:∃r,M[i]? =some r)
 exact⟨r,hr,h.2 r (List.mem_of_getElem? hr)⟩
theorem ext_rows{M M':Mtx}{n w:Nat}(h:Shp M n w)(h':Shp M' n w)(he:∀r,r<n→∀c,c<w→ent M r c=ent M' r c):M=M':=by
 refine List.ext_getElem? fun i=>?_
 by_cases hi:i<n
 ·obtain⟨r,hr,hrl⟩:=row_at h hi
  obtain⟨r',hr',hrl'⟩:=row_at h' hi
  rw[hr,hr']
  congr 1
  refine List.ext_getElem? fun c=>?_
  by_cases hc:c<w
  ·have:=he i hi c hc
   rw[ent_row hr,ent_row hr',List.getD_eq_getElem?_getD,List.getD_eq_getElem?_getD,List.getElem?_eq_getElem (by omega),List.getElem?_eq_getElem (by omega)]at this
   rw[List.getElem?_eq_getElem (by omega),List.getElem?_eq_getElem (by omega)]
   exact congrArg some this
  ·rw[List.getElem?_eq_none (by omega),List.getElem?_eq_none (by omega)]
 ·rw[List.getElem?_eq_none (by rw[h.1];omega),List.getElem?_eq_none (by rw[h'.1];omega)]
end Go.Proofs.YtbiilejgfihohaaGreat
namespace Go.Proofs.YtbiilejgfihohaaGreat
open Go Go.Cu Go.RowKit
theorem rcopied_ok{W0 w:World}{T:Ths}(ko:Ky){s:Sl}{hs:List Sl}{M:Mtx}(hS:Sep W0 w T)(hM0:MatR W0 s hs M)(hl:M.length*24≤140737488355328)(hrl:∀r∈M,r.length≤140737488355328):
  Cl Tryz.prog 125 #[.slice s.base s.len s.cap] (.one (.at .sl)) (fun s' w'=>∃hs',Sep W0 w' (T.up ko (ShT s' hs' M))) w:=by
 refine culletref17_copied.run _ s w ?_
 generalize hRR:(fun(e:Ending) (w':World)=>∃s':Sl,e=.returned ((Sh.one (.at .sl)).enc s')∧∃hs',Sep W0 w' (T.up ko (ShT s' hs' M)))=R
 unfold culletref17_copied.M
 have hM:=bmZ hS hM0
 have e1:=hM.hdr.1
 have e2:=hM.len
 refine bOZ (f:=slV) (z:=⟨none,0,0⟩) tBB iS rfl M.length (by omega) (by omega) (by omega) (by omega) fun t w1 ht hB1 hx1=>?_
 have hO1:Own slV 24 w.heap.size w1 t (List.replicate M.length ⟨none,0,0⟩):=by rw[ht];exact blZ (by simp) (by omega) hB1 (Nat.le_refl _)
 have hS1:=sh_init (k:=ko) hS hx1 hO1
 unfold culletref17_copied.l1
 refine acZ (fun st w'=>∃(i:Nat) (hs':List Sl),st=(s,t,(i:Int),())∧i≤M.length∧Sep W0 w' (T.up ko (ShT t hs' (M.take i++List.replicate (M.length-i) [])))) (fun st _=>(((s.len:Nat):Int)-st.2.2.1).toNat) ?_ ⟨0,_,rfl,Nat.zero_le _,by simpa using hS1⟩
 rintro k _ w2 ⟨i,hs',rfl,hi,hS2⟩ hk
 unfold culletref17_copied.b1
 dsimp only at hk ⊢
 refine abZ (fun hlt=>?_) (fun hge=>?_)
 ·obtain⟨r,hr⟩:=atx (l:=M) (i:=i) (by omega)
  obtain⟨g,hg⟩:=atx (l:=hs) (i:=i) (by omega)
  have hM2:MatR w2 s hs M:=bmZ hS2 hM0
  refine bvZ (f:=f8v) (e:=5) (base:=w2.heap.size) [] (by kernel_rfl) (Nat.le_refl _) (by simp) fun s4 w4 ho4 hx4 _=>?_
  refine atZ (hM2.hdr.ex hx4) hg ?_
  have hrr:=hrl r (List.mem_of_getElem? hr)
  refine aGZ (f:=f8v) (l:=[]) (base:=w2.heap.size) tB iB rfl ho4 ((hM2.row i g r hg hr).ex hx4) (fun _=>rfl) (by simp;omega) (by simp;omega) hx4.size fun d w5 ho hm hin=>?_
  rw[List.nil_append]at ho
  have hx5:=hx4.into hm (fun b hb=>(ho4.base b hb).1)
  obtain⟨q1,q2,_⟩:=sh_get hS2 (Ths.up_same _ _ _)
  have hcl:(M.take i++List.replicate (M.length-i) ([]:List F8)).length=M.length:=by rw[List.length_append,List.length_take,List.length_replicate];omega
  refine Wu_set (f:=slV) (x:=d) (i:=i) (q1.ex hx5) (by omega) tBB sS sS rfl rfl fun w6 hO6 hm6=>?_
  have hS6:=sh_new hS2 (Ths.up_same _ _ _) hx5 ho (by omega) hO6 hm6
  rw[Ths.up_up]at hS6
  have e:(M.take i++List.replicate (M.length-i) ([]:List F8)).set i r=M.take (i+1)++List.replicate (M.length-(i+1)) []:=by
   have h1:List.replicate (M.length-i) ([]:List F8)=(List.replicate M.length []).drop i:=by rw[List.drop_replicate]
   have h2:List.replicate (M.length-(i+1)) ([]:List F8)=(List.replicate M.length []).drop (i+1):=by rw[List.drop_replicate]
   rw[h1,h2]
   exact stepG (by simp) hr
  rw[e]at hS6
  rw[adZ (by omega) (by omega),show(i:Int)+1=((i+1:Nat):Int) by omega]
  exact hk _ _ ⟨i+1,_,rfl,by omega,hS6⟩ (by dsimp only;omega)
 ·have hil:i=M.length:=by omega
  subst hil
  rw[Nat.sub_self,List.replicate_zero,List.append_nil,List.take_of_length_le (Nat.le_refl _)]at hS2
  subst hRR
  exact⟨t,rfl,hs',hS2⟩
structure RecIn(w:World)(F:Nat→Prop)(s:Sl)(hs:List Sl)(K:List (List Nat)):Prop where
 hdr:Rds slV w s hs
 len:hs.length=K.length
 row:∀(i:Nat) (h:Sl) (l:List Nat),hs[i]? =some h→K[i]? =some l→Rds aOZ w h l
 own:∀b,SlIn s b→F b
 apt:∀(i:Nat) (h:Sl),hs[i]? =some h→∀b,SlIn h b→F b
def RecT(s:Sl)(K:List (List Nat)):Th:=⟨fun w F=>∃hs,RecIn w F s hs K,fun⟨hs,h⟩ m hx=>
 ⟨hs,h.hdr.mo m (fun a ha=>hx _ (h.own _ (aYZ ha))),h.len,fun i g l h1 h2=>(h.row i g l h1 h2).mo m (fun a ha=>hx _ (h.apt i g h1 _ (aYZ ha))),h.own,h.apt⟩⟩
theorem tII2:Tryz.prog.underlying 53=some (.slice 25):=by kernel_rfl
theorem sII2:aWZ Tryz.prog 25 1=true:=by kernel_rfl
theorem oII2:isOne Tryz.prog 25=true:=by kernel_rfl
theorem iII2:(Tryz.prog.info? 25).map (fun i=>(i.zero,i.size,i.bytes))=some (some (.slice none 0 0),1,24):=by kernel_rfl
theorem rd_hdI{w:World}{s:Sl}{hs:List Sl}{ik:IntKind}{i:Nat}{h:Sl}{K:Sl→World→Prop}(hr:Rds slV w s hs)(hh:hs[i]? =some h)(hk:K h w):
  Pu Tryz.prog (Instr.indexAt 53 (.slice s.base s.len s.cap) (.int ik (i:Int))) (.one (.at .addr)) (fun a w1=>Rd Tryz.prog (Instr.loadAt 25 (.pointer (some a))) (.one (.at .sl)) K w1) w:=by
 have hlt:=(List.getElem?_eq_some_iff.1 hh).1
 refine Pu_idx hr tII2 sII2 (by omega) (by omega) fun a y hy hc _=>?_
 rw[Int.toNat_natCast,hh]at hy
 cases hy
 exact bwZ (c:=.sl) (x:=h) oII2 hc hk
abbrev useL(K:List (List Nat))(L:List Nat):List (List Nat):=(L::K.filter (fun x=>decide (x≠L))).take 16
theorem use_ok{W0 w:World}{T:Ths}{kr:Ky}{s sl:Sl}{K:List (List Nat)}{L:List Nat}(hS:Sep W0 w T)(hk:T kr=RecT s K)(hr:Rds aOZ w sl L)(hL1:1≤L.length)(hL:L.length≤65536)(hK:∀l∈K,l.length≤65536)(hKl:K.length≤16):
  Cl Tryz.prog 131 #[.slice s.base s.len s.cap,.slice sl.base sl.len sl.cap,.int .i64 16] (.one (.at .sl)) (fun s' w'=>Sep W0 w' (T.up kr (RecT s' (useL K L)))∧Ex w w') w:=by
 refine culletref17_Use.run _ _ _ _ w ?_
 generalize hRR:(fun(e:Ending) (w':World)=>∃s':Sl,e=.returned ((Sh.one (.at .sl)).enc s')∧Sep W0 w' (T.up kr (RecT s' (useL K L)))∧Ex w w')=R
 obtain⟨F,⟨hs,hI⟩,hF,hc⟩:=hS.get kr hk
 have hsl:=hI.hdr.1
 have hsl2:=hI.len
 have hll:=hr.1
 unfold culletref17_Use.M
 refine aJZ (fun h=>by exfalso;omega) (fun _=>?_)
 refine bvZ (f:=aOZ) (e:=3) (base:=w.heap.size) [] (by kernel_rfl) (Nat.le_refl _) (by simp) fun s1 w1 ho1 hx1 _=>?_
 refine aGZ (f:=aOZ) (l:=[]) (base:=w.heap.size) tI iI rfl ho1 (hr.ex hx1) (fun _=>rfl) (by simp;omega) (by simp;omega) hx1.size fun s2 w2 ho2 hm2 _=>?_
 rw[List.nil_append]at ho2
 have hx2:=hx1.into hm2 (fun b hb=>(ho1.base b hb).1)
 refine bvZ (f:=slV) (e:=25) (base:=w2.heap.size) [s2] (by kernel_rfl) (Nat.le_refl _) (by simp) fun s3 w3 ho3 hx3 _=>?_
 unfold culletref17_Use.l1
 refine acZ (fun st w'=>∃(i:Nat) (q:Sl) (hl:List Sl),st=(s,sl,(16:Int),q,(i:Int),())∧i≤K.length∧Own slV 25 w2.heap.size w' q hl∧Ex w2 w'∧hl.length=(L::(K.take i).filter (fun x=>decide (x≠L))).length∧hl.length≤16∧
   (∀(j:Nat) (h:Sl) (l:List Nat),hl[j]? =some h→(L::(K.take i).filter (fun x=>decide (x≠L)))[j]? =some l→Rds aOZ w' h l)∧(∀(j:Nat) (h:Sl),hl[j]? =some h→∀b,SlIn h b→F b∨(w.heap.size≤b∧b<w2.heap.size))) (fun st _=>(((s.len:Nat):Int)-st.2.2.2.2.1).toNat) ?_
  ⟨0,s3,[s2],rfl,Nat.zero_le _,ho3,hx3,by simp,by simp,fun j h l e1 e2=>?_,fun j h e1 b hb=>?_⟩
 rotate_left
 ·cases j with
  | zero=>cases e1;cases e2;exact ho2.rds.ex hx3
  | succ j=>simp at e1
 ·cases j with
  | zero=>cases e1;exact .inr (ho2.base b hb)
  | succ j=>simp at e1
 rintro k _ w4 ⟨i,q,hl,rfl,hi,hO,hx24,hlen,hle,hrow,hapt⟩ hkk
 have hx:=hx2.trans hx24
 have hql:=hO.1
 unfold culletref17_Use.b1
 dsimp only at hkk ⊢
 have done:hl.length=16∨i=K.length→culletref17_Use.j1 R k s sl 16 q (i:Int) false w4:=by
  intro hd
  unfold culletref17_Use.j1
  refine aAZ ?_
  have e:useL K L=L::(K.take i).filter (fun x=>decide (x≠L)):=by
   unfold useL
   rcases hd with h | h
   ·have e2:L::K.filter (fun x=>decide (x≠L))=(L::(K.take i).filter (fun x=>decide (x≠L)))++(K.drop i).filter (fun x=>decide (x≠L)):=by
     rw[List.cons_append,←List.filter_append,List.take_append_drop]
    rw[e2,List.take_append_of_le_length (by omega),List.take_of_length_le (by omega)]
   ·rw[h,List.take_of_length_le (Nat.le_refl _)]at hlen
    rw[h,List.take_of_length_le (l:=K) (Nat.le_refl _),List.take_of_length_le (by omega)]
  have hSf:=hc w4 (RecT q (useL K L)) (fun b=>F b∨(w.heap.size≤b∧b<w4.heap.size)) (hx.weak (fun b _ h=>h.elim)) ⟨hl,hO.rds,by rw[e];exact hlen,fun j h l e1 e2=>hrow j h l e1 (by rw[←e];exact e2),fun b hb=>.inr ⟨Nat.le_trans hx2.size (hO.base b hb).1,(hO.base b hb).2⟩,fun j h e1 b hb=>(hapt j h e1 b hb).imp id (fun h'=>⟨h'.1,Nat.lt_of_lt_of_le h'.2 hx24.size⟩)⟩ (fun b hb=>hb)
  subst hRR
  exact⟨q,rfl,hSf,hx⟩
 refine abZ (fun hlt=>?_) (fun hge=>done (.inr (by omega)))
 have hiK:i<K.length:=by omega
 by_cases hfull:hl.length=16
 ·rw[decide_eq_false (by omega)]
  exact done (.inl hfull)
 rw[decide_eq_true (by omega)]
 unfold culletref17_Use.j1
 refine Cd_t ?_
 obtain⟨l,hl'⟩:=atx (l:=K) (i:=i) hiK
 obtain⟨h,hh⟩:=atx (l:=hs) (i:=i) (by omega)
 have hll2:=hK l (List.mem_of_getElem? hl')
 have htk:K.take (i+1)=K.take i++[l]:=by rw[List.take_add_one,hl'];rfl
 have hr0:=hI.row i h l hh hl'
 refine rd_hdI (hI.hdr.ex hx) hh ?_
 refine auZ (d:=.one (.at .bool)) (x:=decide (l=L)) (rsame_gv (hr0.ex hx) (hr.ex hx) (by omega)) fun w5 hx5=>?_
 by_cases he:l=L
 ·rw[decide_eq_true he]
  refine aAZ ?_
  unfold culletref17_Use.j2
  rw[adZ (by omega) (by omega),show(i:Int)+1=((i+1:Nat):Int) by omega]
  have ef:(K.take (i+1)).filter (fun x=>decide (x≠L))=(K.take i).filter (fun x=>decide (x≠L)):=by rw[htk,List.filter_append];simp[he]
  refine hkk _ _ ⟨i+1,q,hl,rfl,by omega,hO.ex hx5,hx24.trans hx5,by rw[ef];exact hlen,hle,fun j h l e1 e2=>(hrow j h l e1 (by rw[←ef];exact e2)).ex hx5,hapt⟩ (by dsimp only;omega)
 ·rw[decide_eq_false he]
  refine Cd_t ?_
  refine rd_hdI ((hI.hdr.ex hx).ex hx5) hh ?_
  refine bvZ (f:=slV) (e:=25) (base:=w5.heap.size) [h] (by kernel_rfl) (Nat.le_refl _) (by simp) fun s6 w6 ho6 hx6 _=>?_
  have hx46:=hx5.trans hx6
  have hO6:=hO.ex hx46
  refine aGZ (f:=slV) (base:=w2.heap.size) tII2 iII2 rfl hO6 ho6.rds (fun _=>rfl) (by rw[List.length_singleton];omega) (by rw[List.length_singleton];omega) (Nat.le_trans hx24.size hx46.size) fun q' w7 ho7 hm7 _=>?_
  have hx7:Ex w2 w7:=(hx24.trans hx46).into hm7 (fun b hb=>(hO6.base b hb).1)
  unfold culletref17_Use.j2
  rw[adZ (by omega) (by omega),show(i:Int)+1=((i+1:Nat):Int) by omega]
  have ef:L::(K.take (i+1)).filter (fun x=>decide (x≠L))=(L::(K.take i).filter (fun x=>decide (x≠L)))++[l]:=by rw[htk,List.filter_append,List.cons_append];simp[he]
  refine hkk _ _ ⟨i+1,q',hl++[h],rfl,by omega,ho7,hx7,by rw[ef,List.length_append,List.length_append,hlen];rfl,by rw[List.length_append,List.length_singleton];omega,?_,?_⟩ (by dsimp only;omega)
  ·intro j g l' e1 e2
   rw[ef]at e2
   rcases bSZ e1 with ⟨h1,h2⟩ | ⟨h1,rfl⟩
   ·rw[List.getElem?_append_left (by omega)]at e2
    refine((hrow j g l' h2 e2).ex hx46).mo hm7 (fun a ha hb=>?_)
    have hq:=(hO6.base _ hb).1
    rcases hapt j g h2 _ (aYZ ha) with h' | h'
    ·have:=(hF _ h').2
     have:=hx2.size
     omega
    ·omega
   ·rw[List.getElem?_append_right (by omega),h1,hlen,Nat.sub_self]at e2
    cases e2
    refine((hr0.ex hx).ex hx46).mo hm7 (fun a ha hb=>?_)
    have hq:=(hO6.base _ hb).1
    have:=(hF _ (hI.apt i g hh _ (aYZ ha))).2
    have:=hx2.size
    omega
  ·intro j g e1 b hb
   rcases bSZ e1 with ⟨h1,h2⟩ | ⟨h1,rfl⟩
   ·exact hapt j g h2 b hb
   ·exact .inl (hI.apt i g hh b hb)
end Go.Proofs.YtbiilejgfihohaaGreat
namespace Go.Proofs.YtbiilejgfihohaaGreat
open Go Go.Cu Go.RowKit
theorem rgive_row{w:World}{g:Nat}{f:Int}{k m n:Nat}{p rs s so sl su sr:Sl}{hs:List Sl}{M:Mtx}{P:List Nat}{row:List F8}{i:Int}{da:Bool}{R:Ending→World→Prop}{k1:((Option Addr)×Sl×Bool×Sl×Int×Sl×Sl×Int×Unit)→World→Prop}(hB:Has w g (rcV f k m p rs) 103)
  (hrow:Rds f8v w sr row) (hrl:row.length=k) (hu:Rds aOZ w su P) (hPl:P.length=k) (hM:MatR w s hs M) (hPm:∀u∈P,u<M.length) (hUn:∀x∈usedM M P,x.length=n) (hn:n≤140737488355328) (hk2:k≤256)
  (hK:∀(b:Sl) w',Own f8v 5 w.heap.size w' b (baZ n row (usedM M P))→Ex w w'→
   Pu Tryz.prog (Instr.indexAt 25 (.slice sl.base sl.len sl.cap) (.int .i64 i)) (.one (.at .addr)) (fun(x39:Addr) w40=>Rd Tryz.prog (Instr.loadAt 3 (.pointer (some x39))) (.one (.at (.int .i64))) (fun(x41:Int) w42=>Pu Tryz.prog (Instr.indexAt 30 (.slice so.base so.len so.cap) (.int .i64 x41)) (.one (.at .addr)) (fun(x43:Addr) w44=>
    Wu Tryz.prog (Instr.storeAt 24 (.pointer (some x43)) (.slice b.base b.len b.cap)) (fun w45=>culletref17_Codec_Give.j1 R k1 (at0 g) s da so (n:Int) sl su i w45) w44) w42) w40) w'):
  culletref17_Codec_Give.j3 R k1 (at0 g) s da so (n:Int) sl su i sr w:=by
 unfold culletref17_Codec_Give.j3
 refine bOZ (f:=f8v) (z:=0#8) tB iB rfl n (by omega) (by omega) rfl rfl fun b w1 hb1 hB1 hx1=>?_
 have hO1:Own f8v 5 w.heap.size w1 b (List.replicate n 0#8):=by rw[hb1];exact blZ (by simp) (by omega) hB1 (Nat.le_refl _)
 clear hb1 hB1
 have hUl:(usedM M P).length=k:=by unfold usedM;rw[List.length_map,hPl]
 have hsum:=fun t=>sumRow_get (n:=n) (row:=row) (srcs:=usedM M P) (by rw[hrl,hUl]) hUn t
 have hsl:=sumRow_len (row:=row) hUn
 have hUat:∀u x,P[u]? =some x→(usedM M P)[u]? =some (M.getD x []):=fun u x h=>by unfold usedM;rw[List.getElem?_map,h];rfl
 generalize hU:usedM M P=U at*
 unfold culletref17_Codec_Give.l2
 refine acZ (fun st w'=>∃t:Nat,st=(at0 g,s,da,so,(n:Int),sl,su,i,sr,b,(t:Int),())∧t≤n∧Own f8v 5 w.heap.size w' b ((baZ n row U).take t++(List.replicate n 0#8).drop t)∧Ex w w') (fun st _=>((n:Int)-st.2.2.2.2.2.2.2.2.2.2.1).toNat) ?_
  ⟨0,rfl,Nat.zero_le _,by simpa using hO1,hx1⟩
 rintro k2 _ w2 ⟨t,rfl,ht,hO2,hx2⟩ hk2'
 unfold culletref17_Codec_Give.b2
 dsimp only at hk2' ⊢
 refine abZ (fun hlt=>?_) (fun hge=>?_)
 rotate_left
 ·have htn:t=n:=by omega
  subst htn
  rw[List.take_of_length_le (by omega),List.drop_of_length_le (by simp),List.append_nil]at hO2
  exact hK b w2 hO2 hx2
 have htn:t<n:=by omega
 have hcur:((baZ n row U).take t++(List.replicate n 0#8).drop t).length=n:=by rw[List.length_append,List.length_take,List.length_drop,List.length_replicate];omega
 have hcur0:((baZ n row U).take t++(List.replicate n 0#8).drop t)[t]? =some 0#8:=by
  rw[List.getElem?_append_right (by rw[List.length_take];omega),List.length_take,Nat.min_eq_left (by omega),Nat.sub_self,List.getElem?_drop,List.getElem?_replicate,if_pos (by omega)]
 obtain⟨cur,hcurE⟩:∃cur,cur=(baZ n row U).take t++(List.replicate n 0#8).drop t:=⟨_,rfl⟩
 rw[←hcurE]at hcur hcur0 hO2
 obtain⟨V,hV⟩:∃V:Nat→F8,V=fun u=>aHZ u (fun j=>ahZ (row.getD j 0#8) (ent U j t)):=⟨_,rfl⟩
 have hVs:∀u,V (u+1)=V u ^^^ ahZ (row.getD u 0#8) (ent U u t):=fun u=>by rw[hV];rfl
 have hset0:cur.set t (V 0)=cur:=by
  have:V 0=0#8:=by rw[hV];rfl
  rw[this]
  refine List.ext_getElem? fun y=>?_
  rw[List.getElem?_set]
  by_cases e:t=y
  ·subst e;rw[if_pos rfl,if_pos (by omega),hcur0]
  ·rw[if_neg e]
 unfold culletref17_Codec_Give.l3
 refine acZ (fun st w'=>∃u:Nat,st=(at0 g,s,da,so,(n:Int),sl,su,i,sr,b,(t:Int),(u:Int),())∧u≤k∧Own f8v 5 w.heap.size w' b (cur.set t (V u))∧Ex w w') (fun st _=>((k:Int)-st.2.2.2.2.2.2.2.2.2.2.2.1).toNat) ?_
  ⟨0,rfl,Nat.zero_le _,by rw[hset0];exact hO2,hx2⟩
 rintro k3 _ w3 ⟨u,rfl,hu',hO3,hx3⟩ hk3
 unfold culletref17_Codec_Give.b3
 dsimp only at hk3 ⊢
 refine agZ (ajZ (c:=.int .i64) (x:=(k:Int)) (B:=g) (i:=1) (hB.ex hx3) (by kernel_rfl) rfl ?_)
 refine abZ (fun hlt3=>?_) (fun hge3=>?_)
 rotate_left
 ·have huk:u=k:=by omega
  subst huk
  have e:cur.set t (V u)=(baZ n row U).take (t+1)++(List.replicate n 0#8).drop (t+1):=by
   rw[hcurE]
   refine stepG (by rw[hsl,List.length_replicate]) ?_
   have:=hsum t
   rw[hrl]at this
   rw[List.getElem?_eq_getElem (by omega)]
   rw[List.getD_eq_getElem?_getD,List.getElem?_eq_getElem (by omega)]at this
   rw[show V u=aHZ u (fun j=>ahZ (row.getD j 0#8) (ent U j t)) by rw[hV]]
   exact congrArg some this
  rw[e]at hO3
  rw[adZ (by omega) (by omega),show(t:Int)+1=((t+1:Nat):Int) by omega]
  exact hk2' _ _ ⟨t+1,rfl,by omega,hO3,hx3⟩ (by dsimp only;omega)
 have huk:u<k:=by omega
 obtain⟨q,hq⟩:=atx (l:=row) (i:=u) (by omega)
 obtain⟨x,hx⟩:=atx (l:=P) (i:=u) (by omega)
 have hxM:=hPm x (List.mem_of_getElem? hx)
 obtain⟨hh,hhh⟩:=atx (l:=hs) (i:=x) (by rw[hM.len];exact hxM)
 obtain⟨r,hr⟩:=atx (l:=M) (i:=x) hxM
 have hUu:=hUat u x hx
 have hrD:M.getD x []=r:=bzZ hr
 rw[hrD]at hUu
 have hrn:r.length=n:=hUn r (List.mem_of_getElem? hUu)
 obtain⟨y,hy⟩:=atx (l:=r) (i:=t) (by omega)
 have hent:ent U u t=y:=by rw[ent_row hUu];exact bzZ hy
 have hqD:row.getD u 0#8=q:=bzZ hq
 have hVu:=hVs u
 rw[hent,hqD]at hVu
 have hxd:=hx3.trans (Ex.drew w3)
 have hOd:=hO3.ex (Ex.drew w3)
 have mkS:∀{w'},Ex w w'→(Rds f8v w' sr row∧Rds aOZ w' su P∧MatR w' s hs M):=fun hx'=>⟨hrow.ex hx',hu.ex hx',hM.ex hx'⟩
 have hbl:=hOd.1
 rw[List.length_set,hcur]at hbl
 refine asZ (fun w'=>Rds f8v w' sr row∧Rds aOZ w' su P∧MatR w' s hs M) (mkS hxd) ?_
 refine Pu_idxB hOd.rds tB sB (by omega) (by rw[List.length_set];omega) fun bb yy hbb hyy=>?_
 rw[Int.toNat_natCast]
 refine rdS_ent (hrow.ex hxd) (fun w' h'=>⟨row,h'.1,hq⟩) hq ?_
 refine rdS_natH (hu.ex hxd) hx (fun w' h'=>h'.2.1) ?_
 refine aQZ (hM.ex hxd).hdr (fun w' h'=>h'.2.2.hdr) hhh ?_
 refine rdS_ent ((hM.ex hxd).row x hh r hhh hr) (fun w' h'=>⟨r,h'.2.2.row x hh r hhh hr,hy⟩) hy ?_
 have hval:(cur.set t (V u))[t]? =some (V u):=by rw[List.getElem?_set,if_pos rfl,if_pos (by omega)]
 have ld:∀{w'} {K:Int→World→Prop},Own f8v 5 w.heap.size w' b (cur.set t (V u))→K ((V u).toNat:Int) w'→Wr Tryz.prog (Instr.loadAt 5 (.pointer (some (bb.add t)))) (.one (.at (.int .u8))) K w':=by
  intro w' K hO' hK'
  exact Wr_of_Rd (bwZ (c:=.int .u8) (x:=((V u).toNat:Int)) oB (show w'.cell? (bb.add t)=some (f8v (V u)) from rds_at (f:=f8v) hO'.rds hbb hval) hK')
 have fin:∀{w'},Own f8v 5 w.heap.size w' b (cur.set t (V u))→Ex w w'→
   Pu Tryz.prog (Instr.indexAt 24 (.slice b.base b.len b.cap) (.int .i64 (t:Int))) (.one (.at .addr)) (fun x36 w37=>Wu Tryz.prog (Instr.storeAt 5 (.pointer (some x36)) (.int .u8 (bXor .u8 ((V u).toNat:Int) ((ahZ q y).toNat:Int)))) (fun w38=>
    (Rds f8v w38 sr row∧Rds aOZ w38 su P∧MatR w38 s hs M)∧culletref17_Codec_Give.j4 R k1 k2 k3 (at0 g) s da so (n:Int) sl su i sr b (t:Int) (u:Int) w38) w37) w':=by
  intro w' hO' hx'
  rw[bXor_f8]
  refine Wu_set (f:=f8v) (x:=V u ^^^ ahZ q y) (i:=t) hO' (by rw[List.length_set];omega) tB sB sB rfl rfl fun w9 hO9 hm9=>?_
  have hx9:=hx'.into hm9 (fun z hz=>(hO'.base z hz).1)
  refine⟨mkS hx9,?_⟩
  rw[List.set_set,←hVu]at hO9
  unfold culletref17_Codec_Give.j4
  rw[adZ (by omega) (by omega),show(u:Int)+1=((u+1:Nat):Int) by omega]
  exact hk3 _ _ ⟨u+1,rfl,by omega,hO9,hx9⟩ (by dsimp only;omega)
 refine⟨ld hOd ⟨mkS hxd,?_⟩,?_⟩
 ·refine auZ (d:=.one (.at (.int .u8))) (x:=((ahZ q y).toNat:Int)) (rmul_gv q y) fun w9 hx9=>?_
  exact⟨mkS (hxd.trans hx9),fin (hOd.ex hx9) (hxd.trans hx9)⟩
 ·refine auZ (d:=.one (.at (.int .u8))) (x:=((ahZ q y).toNat:Int)) (rmul_gv q y) fun w9 hx9=>?_
  exact⟨mkS (hxd.trans hx9),ld (hOd.ex hx9) ⟨mkS (hxd.trans hx9),fin (hOd.ex hx9) (hxd.trans hx9)⟩⟩
theorem use_nil{w:World}{s sl:Sl}(h:sl.len=0):Cl Tryz.prog 131 #[.slice s.base s.len s.cap,.slice sl.base sl.len sl.cap,.int .i64 16] (.one (.at .sl)) (fun s' w'=>s'=s∧Ex w w') w:=by
 refine culletref17_Use.run _ _ _ _ w ?_
 unfold culletref17_Use.M
 exact aJZ (fun _=>⟨s,rfl,rfl,Ex.refl _⟩) (fun h'=>by exfalso;omega)
theorem rowR_map{f:Int}{k m:Nat}{Q:Mtx}(hf:f=0∨f=1)(hkm:k+m≤256)(hQ:parM f k m=some Q){P W:List Nat}{D:Mtx}(hl:P.length=k)(hd:P.Nodup)(hu:∀u∈P,u<k+m)(hw:∀u∈W,u<k+m)(hD:decM k (gM k Q) P W=some D):D=W.map (rowR f k P):=by
 obtain⟨h1,h2⟩:=rowR_dec hf hkm hQ hl hd hu hw hD
 refine ext_rows h1 ⟨by rw[List.length_map],fun r hr=>by obtain⟨x,_,rfl⟩:=List.mem_map.1 hr;exact rowR_len f k P x⟩ fun r hr c hc=>?_
 rw[h2 r hr c hc]
 obtain⟨x,hx⟩:=atx hr
 rw[ent_row (r:=rowR f k P x) (by rw[List.getElem?_map,hx];rfl),bzZ hx,bzZ (rowR_at hc)]
theorem rgive_ok{W0 w:World}{T:Ths}(ko:Ky){kc kr:Ky}{g:Nat}{f:Int}{k m:Nat}{p rs s:Sl}{hs:List Sl}{M Q:Mtx}{K:List (List Nat)}(da:Bool)(hS:Sep W0 w T)(hc:T kc=Cel g (rcV f k m p rs) 103)(hr:T kr=RecT rs K)(hM0:MatR W0 s hs M)
  (hoc:ko≠kc) (hor:ko≠kr) (hcr:kc≠kr) (hot:∀i,ko≠.tm i) (hct:∀i,kc≠.tm i) (hrt:∀i,kr≠.tm i) (hf:f=0∨f=1) (hk1:1≤k) (hkm:k+m≤256) (hQ:parM f k m=some Q) (hl:M.length*24≤140737488355328) (hrl:∀r∈M,r.length≤140737488355328)
  (hK:∀l∈K,l.length≤65536) (hKl:K.length≤16):
  Cl Tryz.prog 105 #[.pointer (at0 g),.slice s.base s.len s.cap,.bool da] (.tup [.at .sl,.at (.int .i64)]) (fun x w'=>(parS k m (M.map List.length)≠0∧∃so ho T',x=(so,parS k m (M.map List.length),())∧Sep W0 w' T'∧T' ko=ShT so ho M∧∀q,q≠ko→T' q=T q)∨
   (parS k m (M.map List.length)=0∧∃so ho T' rs',x=(so,0,())∧Sep W0 w' T'∧T' kc=Cel g (rcV f k m p rs') 103∧T' kr=RecT rs' (if alZ M=[] then K else useL K (alZ M))∧(∀D,decM k (gM k Q) (presL k (k+m) (alZ M)) (alZ M)=some D→T' ko=ShT so ho (bUZ da k (aBZ (M.map List.length)).1 (usedM M (presL k (k+m) (alZ M))) ((alZ M).zip D) M))∧
    ∀q,q≠ko→q≠kc→q≠kr→(∀i,q≠.tm i)→T' q=T q)) w:=by
 refine culletref17_Codec_Give.run _ _ _ _ w ?_
 generalize hRR:(fun(e:Ending) (w':World)=>∃x:Sl×Int×Unit,e=.returned ((Sh.tup [.at .sl,.at (.int .i64)]).enc x)∧((parS k m (M.map List.length)≠0∧∃so ho T',x=(so,parS k m (M.map List.length),())∧Sep W0 w' T'∧T' ko=ShT so ho M∧∀q,q≠ko→T' q=T q)∨
   (parS k m (M.map List.length)=0∧∃so ho T' rs',x=(so,0,())∧Sep W0 w' T'∧T' kc=Cel g (rcV f k m p rs') 103∧T' kr=RecT rs' (if alZ M=[] then K else useL K (alZ M))∧(∀D,decM k (gM k Q) (presL k (k+m) (alZ M)) (alZ M)=some D→T' ko=ShT so ho (bUZ da k (aBZ (M.map List.length)).1 (usedM M (presL k (k+m) (alZ M))) ((alZ M).zip D) M))∧
    ∀q,q≠ko→q≠kc→q≠kr→(∀i,q≠.tm i)→T' q=T q)))=R
 unfold culletref17_Codec_Give.M
 have hlens:=matR_lens hM0
 refine aeZ (rcopied_ok ko hS hM0 hl hrl) ?_
 rintro so w1 ⟨ho,hS1⟩
 have c1:(T.up ko (ShT so ho M)) kc=Cel g (rcV f k m p rs) 103:=(Ths.up_ne _ _ hoc.symm).trans hc
 have r1:(T.up ko (ShT so ho M)) kr=RecT rs K:=(Ths.up_ne _ _ hor.symm).trans hr
 have hM1:=bmZ hS1 hM0
 have hhn:∀h∈hs,h.len≤140737488355328:=fun h hh=>by
  obtain⟨i,hi⟩:=List.mem_iff_getElem?.1 hh
  obtain⟨r,hr⟩:=atx (l:=M) (i:=i) (by rw[←hM0.len];exact(List.getElem?_eq_some_iff.1 hi).1)
  rw[(hM0.row i h r hi hr).1]
  exact hrl r (List.mem_of_getElem? hr)
 refine aeZ (rpartial_ok (hS1.has c1) hM1.hdr (by rw[hM0.len];omega) hhn hkm) ?_
 rw[hlens,←miss_zer]
 rintro⟨xn,sl,xe,_⟩ w2 ⟨hx2,⟨hpe,hxe⟩ | ⟨hp0,se',hxe,hse⟩⟩
 ·cases hxe
  refine aEZ (fun _=>?_) (fun h=>absurd h hpe)
  subst hRR
  exact⟨(so,_,()),rfl,.inl ⟨hpe,so,ho,_,rfl,hS1.exx hx2,Ths.up_same _ _ _,fun q hq=>Ths.up_ne _ _ hq⟩⟩
 cases hxe
 refine aEZ (fun h=>absurd rfl h) (fun _=>?_)
 obtain⟨hM,hn1,hMn,hlm⟩:=parS_ok hp0
 rw[List.length_map]at hM
 rw[←miss_zer]at hlm
 have hMn:∀x∈M,x.length=0∨x.length=(aBZ (M.map List.length)).1:=fun x hx=>hMn _ (List.mem_map.2 ⟨x,hx,rfl⟩)
 have hn2:(aBZ (M.map List.length)).1≤140737488355328:=scan_le hn1 hrl hMn
 generalize (aBZ (M.map List.length)).1=n at*
 have hLn:NumL (k+m) (alZ M):=by rw[←hM];exact missL_num M
 have hS2:=hS1.newOwn (.tm 0) hx2 hse
 obtain⟨T2,hT2e⟩:∃T2,T2=(T.up ko (ShT so ho M)).up (.tm 0) (Owt aOZ 3 sl (alZ M)):=⟨_,rfl⟩
 rw[←hT2e]at hS2
 have o2:T2 ko=ShT so ho M:=by rw[hT2e,Ths.up_ne _ _ (hot 0),Ths.up_same]
 have c2:T2 kc=Cel g (rcV f k m p rs) 103:=by rw[hT2e,Ths.up_ne _ _ (hct 0)];exact c1
 have r2:T2 kr=RecT rs K:=by rw[hT2e,Ths.up_ne _ _ (hrt 0)];exact r1
 have l2:T2 (.tm 0)=Owt aOZ 3 sl (alZ M):=by rw[hT2e,Ths.up_same]
 have n2:∀q,q≠ko→(∀i,q≠.tm i)→T2 q=T q:=fun q h1 h2=>by rw[hT2e,Ths.up_ne _ _ (h2 0),Ths.up_ne _ _ h1]
 clear hT2e
 have hll:=hLn.len
 refine aeZ (used_ok (L:=alZ M) (hS2.has c2) (hS2.owt l2).rds (by omega) hkm) ?_
 rintro su w3 ⟨hu3,hx3⟩
 have hS3:=hS2.newOwn (.tm 1) hx3 hu3
 have hPl:((aIZ (k+m) (alZ M)).take k).length=k:=by have:=lostL_length hLn;rw[List.length_take];omega
 have hPn:((aIZ (k+m) (alZ M)).take k).Nodup:=(lostL_nodup (k+m) (alZ M)).sublist (List.take_sublist _ _)
 have hPm:∀u∈(aIZ (k+m) (alZ M)).take k,u<k+m∧u∉alZ M:=fun u hu=>mem_lostL.1 (List.mem_of_mem_take hu)
 have hPe:presL k (k+m) (alZ M)=(aIZ (k+m) (alZ M)).take k:=rfl
 rw[hPe]at hRR
 generalize (aIZ (k+m) (alZ M)).take k=P at*
 obtain⟨T3,hT3e⟩:∃T3,T3=T2.up (.tm 1) (Owt aOZ 3 su P):=⟨_,rfl⟩
 rw[←hT3e]at hS3
 have n3:∀q,q≠.tm 1→T3 q=T2 q:=fun q hq=>by rw[hT3e,Ths.up_ne _ _ hq]
 have u3:T3 (.tm 1)=Owt aOZ 3 su P:=by rw[hT3e,Ths.up_same]
 clear hT3e
 have o3:=(n3 ko (hot 1)).trans o2
 have c3:=(n3 kc (hct 1)).trans c2
 have r3:=(n3 kr (hrt 1)).trans r2
 have l3:=(n3 (.tm 0) (by simp)).trans l2
 have hUn:∀x∈usedM M P,x.length=n:=by
  intro x hx
  unfold usedM at hx
  obtain⟨u,hu1,rfl⟩:=List.mem_map.1 hx
  obtain⟨g1,g2⟩:=hPm u hu1
  obtain⟨r,hr⟩:=atx (l:=M) (i:=u) (by omega)
  rw[bzZ hr]
  rcases hMn r (List.mem_of_getElem? hr) with h | h
  ·exact absurd (mem_missL.2 ⟨by omega,by rw[bzZ hr];exact h⟩) g2
  ·exact h
 have hPM:∀u∈P,u<M.length:=fun u hu=>by have:=(hPm u hu).1;omega
 obtain⟨Z,hZ⟩:∃Z,Z=(alZ M).zip ((alZ M).map (rowR f k P)):=⟨_,rfl⟩
 have hZl:Z.length=(alZ M).length:=by rw[hZ,List.length_zip,List.length_map,Nat.min_self]
 have hZa:∀i x,(alZ M)[i]? =some x→Z[i]? =some (x,rowR f k P x):=fun i x h=>by rw[hZ,List.getElem?_zip_eq_some];exact⟨h,by rw[List.getElem?_map,h];rfl⟩
 unfold culletref17_Codec_Give.l1
 refine acZ (fun st w'=>∃(i:Nat) (ho':List Sl) (T':Ths),st=(at0 g,s,da,so,(n:Int),sl,su,(i:Int),())∧i≤(alZ M).length∧Sep W0 w' T'∧T' ko=ShT so ho' (bUZ da k n (usedM M P) (Z.take i) M)∧∀q,q≠ko→T' q=T3 q) (fun st _=>(((alZ M).length:Int)-st.2.2.2.2.2.2.2.1).toNat) ?_
  ⟨0,ho,T3,rfl,Nat.zero_le _,hS3,o3,fun _ _=>rfl⟩
 rintro k1' _ w4 ⟨i,ho4,T4,rfl,hi,hS4,o4,n4⟩ hk1'
 unfold culletref17_Codec_Give.b1
 dsimp only at hk1' ⊢
 have c4:=(n4 kc hoc.symm).trans c3
 have r4:=(n4 kr hor.symm).trans r3
 have l4:=(n4 (.tm 0) (hot 0).symm).trans l3
 have u4:=(n4 (.tm 1) (hot 1).symm).trans u3
 have hsll:=(hS4.owt l4).rds.1
 refine abZ (fun hlt=>?_) (fun hge=>?_)
 ·have hiL:i<(alZ M).length:=by omega
  obtain⟨x,hx⟩:=atx hiL
  have hxL:=hLn.lt x (List.mem_of_getElem? hx)
  have hZi:=hZa i x hx
  have htk:Z.take (i+1)=Z.take i++[(x,rowR f k P x)]:=by rw[List.take_add_one,hZi];rfl
  have hS5:=hS4.exx (Ex.drew w4)
  have next:∀{w':World} {ho':List Sl} {T':Ths},Sep W0 w' T'→T' ko=ShT so ho' (bUZ da k n (usedM M P) (Z.take (i+1)) M)→(∀q,q≠ko→T' q=T3 q)→culletref17_Codec_Give.j1 R k1' (at0 g) s da so (n:Int) sl su (i:Int) w':=by
   intro w' ho' T' h1 h2 h3
   unfold culletref17_Codec_Give.j1
   rw[adZ (by omega) (by omega),show(i:Int)+1=((i+1:Nat):Int) by omega]
   exact hk1' _ _ ⟨i+1,ho',T',rfl,by omega,h1,h2,h3⟩ (by dsimp only;omega)
  have two:∀t:Bool,t=(da&&decide (k≤x))→culletref17_Codec_Give.j2 R k1' (at0 g) s da so (n:Int) sl su (i:Int) t w4.drew:=by
   intro t ht
   unfold culletref17_Codec_Give.j2
   refine Cd_of (fun hc'=>?_) (fun hc'=>?_)
   ·refine next hS5 (ho':=ho4) ?_ n4
    rw[htk,giveM_snoc,←ht,hc',if_pos rfl]
    exact o4
   ·have hd6:=Ex.drew w4.drew
    have hS6:=hS5.exx hd6
    refine asZ (fun w'=>Has w' g (rcV f k m p rs) 103∧Rds aOZ w' sl (alZ M)) ⟨hS6.has c4,(hS6.owt l4).rds⟩ ?_
    refine agZ (akZ (c:=.int .i64) (x:=f) (B:=g) (i:=0) (fun w' h=>h.1) (by kernel_rfl) rfl ?_)
    refine agZ (akZ (c:=.int .i64) (x:=(k:Int)) (B:=g) (i:=1) (fun w' h=>h.1) (by kernel_rfl) rfl ?_)
    refine rdS_natH (hS6.owt l4).rds hx (fun w' h=>h.2) ?_
    refine aeZ (rrow_ok (f:=f) (x:=x) (hS6.owt u4).rds hPl (by omega) hPn (fun u hu=>by have:=(hPm u hu).1;omega) (by omega)) ?_
    rintro sr w7 ⟨hsr,hx7⟩
    have hS7:=hS6.exx hx7
    refine⟨⟨hS7.has c4,(hS7.owt l4).rds⟩,?_⟩
    refine rgive_row (hS7.has c4) hsr.rds (rowR_len f k P x) (hS7.owt u4).rds hPl (bmZ hS7 hM0) hPM hUn hn2 (by omega) fun b w8 hb8 hx8=>?_
    have hS8:=hS7.exx hx8
    refine rd_nat (hS8.owt l4).rds hx ?_
    have hk8:=(sh_get hS8 o4)
    have hol:ho4.length=k+m:=by rw[hk8.2.1,giveM_len,hM]
    refine Wu_set (f:=slV) (x:=b) (i:=x) hk8.1 (by omega) tBB sS sS rfl rfl fun w9 hO9 hm9=>?_
    have hS9:=sh_new hS7 o4 hx8 hb8 (by omega) hO9 hm9
    refine next hS9 (ho':=ho4.set x b) ?_ (fun q hq=>by rw[Ths.up_ne _ _ hq];exact n4 q hq)
    rw[Ths.up_same,htk,giveM_snoc,←ht,hc',if_neg (by simp)]
  cases da with
  | true=>
   refine Cd_t ?_
   refine rdS_natH (hS5.owt l4).rds hx (fun v hv=>by cases hv;exact(hS5.owt l4).rds) ?_
   refine agZ (akZ (c:=.int .i64) (x:=(k:Int)) (B:=g) (i:=1) (fun v hv=>by cases hv;exact hS5.has c4) (by kernel_rfl) rfl ?_)
   refine two _ ?_
   rw[Bool.true_and]
   by_cases h:k≤x
   ·rw[decide_eq_true h,decide_eq_true (by omega)]
   ·rw[decide_eq_false h,decide_eq_false (by omega)]
  | false=>
   refine aAZ ?_
   exact two _ (by rw[Bool.false_and])
 ·have hiL:i=(alZ M).length:=by omega
  rw[hiL,List.take_of_length_le (by omega)]at o4
  refine agZ (ajZ (c:=.sl) (x:=rs) (B:=g) (i:=4) (hS4.has c4) (by kernel_rfl) rfl ?_)
  have fin:∀{w5:World} {T5:Ths} {rs':Sl},Sep W0 w5 T5→T5 kc=Cel g (rcV f k m p rs) 103→T5 kr=RecT rs' (if alZ M=[] then K else useL K (alZ M))→T5 ko=T4 ko→(∀q,q≠ko→q≠kc→q≠kr→(∀i,q≠.tm i)→T5 q=T q)→
    Pu Tryz.prog (amZ (at0 g)) (.one (.at .addr)) (fun(x75:Addr) w76=>Wu Tryz.prog (Instr.storeAt 53 (.pointer (some (Addr.add x75 4))) (.slice rs'.base rs'.len rs'.cap)) (fun w77=>R (.returned (.tuple #[(.slice so.base so.len so.cap),(.int .i64 0)])) w77) w76) w5:=by
   intro w5 T5 rs' hS5 c5 r5 o5 n5
   refine agZ ?_
   rw[show(⟨g,0,none⟩:Addr).add 4=⟨g,4,none⟩ from rfl]
   refine awZ (v:=slV rs') (hS5.has c5) (by kernel_rfl) (by simp[Value.cells,Value.oneCell']) (by show 4+1≤5;omega) fun w6 hB6 hm6=>?_
   have hB6':Has w6 g (rcV f k m p rs') 103:=hB6
   have hS6:=hS5.cel c5 hB6' hm6
   subst hRR
   refine⟨(so,0,()),rfl,.inr ⟨hp0,so,ho4,_,rs',rfl,hS6,Ths.up_same _ _ _,(Ths.up_ne _ _ hcr.symm).trans r5,fun D hD=>?_,fun q h1 h2 h3 h4=>by rw[Ths.up_ne _ _ h2];exact n5 q h1 h2 h3 h4⟩⟩
   rw[Ths.up_ne _ _ hoc,o5,o4,hZ,rowR_map hf hkm hQ hPl hPn (fun u hu=>(hPm u hu).1) (fun u hu=>hLn.lt u hu) hD]
  have n5:∀q,q≠ko→(∀i,q≠.tm i)→T4 q=T q:=fun q h1 h2=>(n4 q h1).trans ((n3 q (h2 1)).trans (n2 q h1 h2))
  by_cases he:alZ M=[]
  ·have hz:sl.len=0:=by rw[hsll,he];rfl
   refine aeZ (use_nil (s:=rs) hz) ?_
   rintro _ w5 ⟨rfl,hx5⟩
   exact fin (hS4.exx hx5) c4 (by rw[if_pos he];exact r4) rfl (fun q h1 _ _ h4=>n5 q h1 h4)
  ·have hne:1≤(alZ M).length:=List.length_pos_iff.2 he
   refine aeZ (use_ok hS4 r4 (hS4.owt l4).rds hne (by omega) hK hKl) ?_
   rintro rs' w5 ⟨hS5,hx5⟩
   refine fin hS5 ((Ths.up_ne _ _ hcr).trans c4) ?_ (Ths.up_ne _ _ hor) (fun q h1 _ h3 h4=>by rw[Ths.up_ne _ _ h3];exact n5 q h1 h4)
   rw[Ths.up_same,if_neg he]
end Go.Proofs.YtbiilejgfihohaaGreat
namespace Go.Proofs.YtbiilejgfihohaaGreat
open Go Go.Cu Go.RowKit
theorem gparity_err{w:World}{f k m:Int}(hk:I64 k)(hm:I64 m)(hf:f=0∨f=1)(hp:parE f k m≠0):Cl Tryz.prog 52 #[.int .i64 f,.int .i64 k,.int .i64 m] (.tup [.at .sl,.at (.int .i64)]) (fun x w'=>x.2.1=4∧Ex w w') w:=by
 refine gener_Parity.run _ f k m w ?_
 obtain⟨k1,k2⟩:=hk
 obtain⟨m1,m2⟩:=hm
 have hp':k<1∨m<1∨k>256∨m>256∨k+m>256:=by
  unfold parE at hp
  rw[if_neg (by omega)]at hp
  refine Classical.byContradiction fun h=>hp (if_neg h)
 unfold gener_Parity.M
 have last:∀t:Bool,t=true→gener_Parity.j2 (fun e w2=>∃x:Sl×Int×Unit,e=.returned ((Sh.tup [.at .sl,.at (.int .i64)]).enc x)∧x.2.1=4∧Ex w w2) f k m t w:=by
  rintro _ rfl
  unfold gener_Parity.j2
  exact Cd_t ⟨(⟨none,0,0⟩,4,()),rfl,rfl,Ex.refl _⟩
 have go:gener_Parity.j1 (fun e w2=>∃x:Sl×Int×Unit,e=.returned ((Sh.tup [.at .sl,.at (.int .i64)]).enc x)∧x.2.1=4∧Ex w w2) f k m false w:=by
  unfold gener_Parity.j1
  refine aAZ ?_
  refine abZ (fun h1=>last _ rfl) (fun h1=>?_)
  refine abZ (fun h2=>last _ rfl) (fun h2=>?_)
  refine abZ (fun h3=>last _ rfl) (fun h3=>?_)
  refine abZ (fun h4=>last _ rfl) (fun h4=>?_)
  rw[adZ (by omega) (by omega)]
  exact last _ (decide_eq_true (by omega))
 refine aEZ (fun h0=>?_) (fun _=>go)
 have:(f !=1)=false:=by
  have:f=1:=by omega
  simp[this]
 rw[this]
 exact go
theorem mnew_err{w:World}{f b k m:Int}(hk:I64 k)(hm:I64 m)(he:newE f b k m≠0):Gv Tryz.prog 32 #[.int .i64 f,.int .i64 b,.int .i64 k,.int .i64 m] (.tuple #[.pointer none,.int .i64 (newE f b k m)]) w:=by
 refine mcode_New.run _ f b k m w ?_
 unfold mcode_New.M
 by_cases hf:f=0∨f=1
 ·have hf':¬(f≠0∧f≠1):=by omega
  have go:mcode_New.j1 (fun e w2=>e=.returned (.tuple #[.pointer none,.int .i64 (newE f b k m)])∧Ex w w2) f b k m false w:=by
   unfold mcode_New.j1
   refine aAZ ?_
   by_cases hb:b<0∨b>2
   ·have e:newE f b k m=3:=by unfold newE;rw[if_neg hf',if_pos hb]
    have hn:Cl Tryz.prog 51 #[.int .i64 b] (.tup [.at .ptr,.at (.int .i64)]) (fun x w'=>x.2.1=3∧Ex w w') w:=by
     refine kernel_New.run _ b w ?_
     unfold kernel_New.M
     refine aJZ (fun h=>by exfalso;omega) (fun _=>aJZ (fun h=>by exfalso;omega) (fun _=>aJZ (fun h=>by exfalso;omega) (fun _=>?_)))
     exact⟨(none,3,()),rfl,rfl,Ex.refl _⟩
    refine aeZ hn ?_
    rintro⟨x1,x2,_⟩ w1 ⟨h1,hx1⟩
    dsimp only at h1
    subst h1
    refine aEZ (fun _=>⟨by rw[e],hx1⟩) (fun h=>absurd h (show ¬(3:Int)=0 by decide))
   ·have e:newE f b k m=parE f k m:=by unfold newE;rw[if_neg hf',if_neg hb]
    have e4:parE f k m=4:=by
     rw[e]at he
     unfold parE at he ⊢
     rw[if_neg hf']at he ⊢
     split
     ·rfl
     ·rename_i h;rw[if_neg h]at he;exact absurd rfl he
    obtain⟨bn,rfl⟩:∃n:Nat,b=(n:Int):=⟨b.toNat,by omega⟩
    refine aeZ (newSet_ok (b:=bn) (by omega) w) ?_
    rintro _ w1 ⟨sp,kb,rfl,_,_,_,_,_,hx1⟩
    refine aAZ ?_
    refine aeZ (gparity_err hk hm hf (by rw[e4];decide)) ?_
    rintro⟨x1,x2,_⟩ w2 ⟨h1,hx2⟩
    dsimp only at h1
    subst h1
    refine aEZ (fun _=>⟨by rw[e,e4],hx1.trans hx2⟩) (fun h=>absurd h (show ¬(4:Int)=0 by decide))
  refine aEZ (fun h0=>?_) (fun _=>go)
  have:(f !=1)=false:=by
   have h1:f=1:=by omega
   simp[h1]
  rw[this]
  exact go
 ·have e:newE f b k m=2:=by unfold newE;rw[if_pos (by omega)]
  refine aEZ (fun h0=>?_) (fun h=>by exfalso;omega)
  have:(f !=1)=true:=by simp;omega
  rw[this]
  unfold mcode_New.j1
  exact Cd_t ⟨by rw[e],Ex.refl _⟩
theorem give_nil{w:World}{s:Sl}(da:Bool):Gv Tryz.prog 39 #[.pointer none,.slice s.base s.len s.cap,.bool da] (.int .i64 1) w:=by
 refine mC_give.run _ none s da w ?_
 unfold mC_give.M
 refine aCZ (e:=78) (by kernel_rfl) ?_
 exact Cd_t ⟨rfl,Ex.refl _⟩
theorem cached_nil{w:World}:Gv Tryz.prog 33 #[.pointer none] (.int .i64 0) w:=by
 refine mC_Cached.run _ none w ?_
 unfold mC_Cached.M
 refine aCZ (e:=78) (by kernel_rfl) ?_
 exact Cd_t ⟨rfl,Ex.refl _⟩
end Go.Proofs.YtbiilejgfihohaaGreat
namespace Go.Proofs.YtbiilejgfihohaaGreat
open Go Go.Cu Go.RowKit
def layR(r:List F8):List F8:=List.replicate 3 91#8++r++List.replicate 70 91#8
abbrev layM(M:Mtx):Mtx:=M.map layR
theorem layR_len(r:List F8):(layR r).length=r.length+73:=by unfold layR;rw[List.length_append,List.length_append,List.length_replicate,List.length_replicate];omega
theorem sh_push{W0 w w1 w':World}{T:Ths}{k:Ky}{s s' h:Sl}{hs:List Sl}{M:Mtx}{r:List F8}(hS:Sep W0 w T)(hk:T k=ShT s hs M)(hx:Ex w w1)(ho:Own f8v 5 w.heap.size w1 h r)
  (hl:Own slV 24 0 w' s' (hs++[h])) (hm:Mo (SlIn s) w1 w') (hin:∀b,SlIn s' b→SlIn s b∨w1.heap.size≤b):Sep W0 w' (T.up k (ShT s' (hs++[h]) (M++[r]))):=by
 obtain⟨F,ht,hF,hc⟩:=hS.get k hk
 have hsl:∀b,SlIn s b→b<w.heap.size:=fun b hb=>(hF b (ht.own b hb)).2
 have hold:∀(i:Nat) (g:Sl),hs[i]? =some g→∀b,SlIn g b→b<w.heap.size:=fun i g hg b hb=>(hF b (ht.apt i g hg b hb).2).2
 have hnew:∀b,SlIn h b→w.heap.size≤b∧b<w1.heap.size:=fun b hb=>ho.base b hb
 have hx1:=hx.size
 have hm1:=hm.size
 refine hc w' _ (fun b=>F b∨(w.heap.size≤b∧b<w'.heap.size)) (Mo.trans (hx.weak (fun b _ hb=>hb.elim)) hm (fun _=>id) (fun b hb hb'=>ht.own b hb')) ?_ (fun b hb=>hb)
 refine⟨hl,by rw[List.length_append,List.length_append,ht.len];rfl,fun i g q h1 h2=>?_,fun i j g g' hne h1 h2 b hb hb'=>?_,fun i g h1 b hb=>?_,fun b hb=>?_⟩
 ·rcases bSZ h1 with ⟨a1,a2⟩ | ⟨a1,rfl⟩
  ·rw[List.getElem?_append_left (by have:=ht.len;omega)]at h2
   exact((ht.row i g q a2 h2).mo hx (fun _ _=>id)).mo hm (fun b hb hb'=>(ht.apt i g a2 b hb).1 hb')
  ·rw[List.getElem?_append_right (by have:=ht.len;omega),a1,ht.len,Nat.sub_self]at h2
   cases h2
   exact(ho.weak (Nat.zero_le _)).mo hm (fun b hb hb'=>absurd (hsl b hb') (by have:=(hnew b hb).1;omega))
 ·rcases bSZ h1 with ⟨a1,a2⟩ | ⟨a1,rfl⟩
  ·rcases bSZ h2 with ⟨b1,b2⟩ | ⟨b1,rfl⟩
   ·exact ht.dis i j g g' hne a2 b2 b hb hb'
   ·have:=hold i g a2 b hb
    have:=(hnew b hb').1
    omega
  ·rcases bSZ h2 with ⟨b1,b2⟩ | ⟨b1,rfl⟩
   ·have:=hold j g' b2 b hb'
    have:=(hnew b hb).1
    omega
   ·omega
 ·rcases bSZ h1 with ⟨a1,a2⟩ | ⟨a1,rfl⟩
  ·have:=ht.apt i g a2 b hb
   refine⟨fun hb'=>?_,.inl this.2⟩
   rcases hin b hb' with h' | h'
   ·exact this.1 h'
   ·have:=hold i g a2 b hb
    omega
  ·have:=hnew b hb
   refine⟨fun hb'=>?_,.inr ⟨this.1,by omega⟩⟩
   rcases hin b hb' with h' | h'
   ·have:=hsl b h'
    omega
   ·omega
 ·rcases hin b hb with h' | h'
  ·exact .inl (ht.own b h')
  ·exact .inr ⟨by omega,(hl.base b hb).2⟩
theorem sh_zero{W0 w:World}{T:Ths}(k:Ky)(hS:Sep W0 w T):Sep W0 w (T.up k (ShT ⟨none,0,0⟩ [] [])):=
 hS.new k (G:=fun _=>False) (Ex.refl _) ⟨Own.nil _ _ _ _,rfl,fun i h r h1=>by simp at h1,fun i j h h' _ h1=>by simp at h1,fun i h h1=>by simp at h1,fun b ⟨_,h,_⟩=>by cases h⟩ (fun b hb=>hb.elim)
theorem own_of_hasW{α:Type}{f:α→Value}{e:TypeId}{base g n:Nat}{w:World}{l:List α}(hl:l.length=n)(hn:n≤281474976710656)(h:Has w g (l.map f) e)(hb:base≤g):Own f e base w ⟨some ⟨g,0,none⟩,n,n⟩ l:=by
 subst hl
 refine⟨rfl,by simp,.inr ⟨g,l.length,_,rfl,hb,h,Nat.le_refl _,by show _≤9223372036854775807;omega,by simp,?_⟩⟩
 rw[Nat.mul_one]
 exact List.take_of_length_le (by simp)
theorem own_full{α:Type}{f:α→Value}{e:TypeId}{base g n:Nat}{w:World}{l:List α}(h:Own f e base w ⟨at0 g,n,n⟩ l)(hn:0<n):Has w g (l.map f) e∧base≤g∧l.length=n:=by
 have hl:n=l.length:=h.1
 obtain⟨g',cs,e1,hb,hB,_,_,_,hcs,htk⟩:=h.inv (by omega)
 cases e1
 have hcs:cs.length=n:=hcs
 rw[List.take_of_length_le (by omega)]at htk
 rw[←htk]
 exact⟨hB,hb,hl.symm⟩
theorem cp_mid{g n:Nat}{cs m:List F8}{x:Sl}{K:Int→World→Prop}{w:World}(hB:Has w g (cs.map f8v) 5)(hr:Rds f8v w x m)(hfit:3+m.length≤cs.length)(hn:m.length≤n)
  (hk:∀w',Has w' g ((cs.take 3++m++cs.drop (3+m.length)).map f8v) 5→Mo (fun b=>b=g) w w'→K m.length w'):
  Wr Tryz.prog (Builtin.copy_ #[24,24] 3 #[.slice (some ⟨g,3,none⟩) n n,.slice x.base x.len x.cap]) (.one (.at (.int .i64))) K w:=by
 by_cases hm:m=[]
 ·subst hm
  obtain⟨xb,xl,xc⟩:=x
  have hxl:xl=0:=hr.1
  subst hxl
  obtain⟨i,hi0,hz0,hs0,hb0⟩:=info_parts iB
  refine⟨0,w,?_,hk w (by simpa using hB) (Mo.refl _ _)⟩
  have hl0:∀a:Addr,(loadCells a 0).run Tryz.prog w=.ok #[] w:=fun a=>by simpa using run_loadCells_list (P:=Tryz.prog) w a [] (by simp)
  cases xb <;> simp[Builtin.copy_,run_underlying tB,sizeOf,typeInfo,hi0,hs0,Builtin.lenOf,Builtin.firstCells,storeCells,hl0,goInt,Sh.enc,Cx.enc,At.enc]
 ·exact Wr_copy (f:=f8v) (g:=g) (o:=3) (n:=n) (c:=n) (cs:=cs) tB (by kernel_rfl) hB hr (fun _=>rfl) hm hfit hn hk
structure LinkL(hA:List Sl)(M:Mtx)(hF:List Sl):Prop where
 len:hF.length=M.length
 alen:hA.length=M.length
 ent:∀(i:Nat) (h:Sl) (r:List F8),hF[i]? =some h→M[i]? =some r→(∃a,hA[i]? =some a∧h=beZ a 3 (3+r.length))∨(h=⟨none,0,0⟩∧r=[])
theorem LinkL.snoc{hA hF:List Sl}{M:Mtx}{a h:Sl}{r:List F8}(hL:LinkL hA M hF)(hh:h=beZ a 3 (3+r.length)∨(h=⟨none,0,0⟩∧r=[])):LinkL (hA++[a]) (M++[r]) (hF++[h]):=by
 refine⟨by simp[hL.len],by simp[hL.alen],fun i g q h1 h2=>?_⟩
 have e1:=hL.len
 have e2:=hL.alen
 rcases bSZ h1 with ⟨a1,a2⟩ | ⟨a1,rfl⟩
 ·rw[List.getElem?_append_left (by omega)]at h2
  rcases hL.ent i g q a2 h2 with ⟨x,hx,hg⟩ | h'
  ·exact .inl ⟨x,by rw[List.getElem?_append_left (by omega)];exact hx,hg⟩
  ·exact .inr h'
 ·rw[List.getElem?_append_right (by omega),a1,hL.len,Nat.sub_self]at h2
  cases h2
  rcases hh with h' | h'
  ·exact .inl ⟨a,by rw[List.getElem?_append_right (by omega),a1,e1,e2,Nat.sub_self];rfl,h'⟩
  ·exact .inr h'
end Go.Proofs.YtbiilejgfihohaaGreat
