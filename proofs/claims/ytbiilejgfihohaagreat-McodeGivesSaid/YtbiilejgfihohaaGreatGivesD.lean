/- A part of what the last text of this claim leans on. -/
import Derived.Test.YtbiilejgfihohaaGreatGivesC
import Derived.Test.YtbiilejgfihohaaGreatProg
set_option linter.all false
set_option maxHeartbeats 4000000
set_option maxRecDepth 100000
set_option autoImplicit false
namespace Go.Proofs.YtbiilejgfihohaaGreat
open Go Go.Cu
theorem ayZ:Tryz.prog.follows .mixedOrders=true:=by kernel_rfl
noncomputable def kS_Agrees.body:Code:=(Tryz.f36.body).getD .skip
def kS_Agrees.b2(R:EPq)(k1:((Option Addr)×Sl×Sl×Addr×Sl×Sl×Int×Int×Unit)→WPq)(k2:((Option Addr)×Sl×Sl×Addr×Sl×Sl×Int×Int×Sl×Int×Int×Unit)→WPq)(v0:(Option Addr))(v2:Sl)(v3:Sl)(v9:Addr)(v13:Sl)(t33:Sl)(t34:Int)(t35:Int)(t55:Sl)(t56:Int)(t57:Int)(w:World):Prop:=
 Cd (decide (t57<t56)) (Pu Tryz.prog (Instr.indexAt 24 (.slice t55.base t55.len t55.cap) (.int .i64 t57)) (.one (.at .addr)) (fun(x31:Addr) w32=>
 Rd Tryz.prog (Instr.loadAt 5 (.pointer (some x31))) (.one (.at (.int .u8))) (fun(x33:Int) w34=>
 Pu Tryz.prog (Instr.indexAt 24 (.slice v13.base v13.len v13.cap) (.int .i64 t57)) (.one (.at .addr)) (fun(x35:Addr) w36=>
 Rd Tryz.prog (Instr.loadAt 5 (.pointer (some x35))) (.one (.at (.int .u8))) (fun(x37:Int) w38=>
 Cd (x33 !=x37) (R (.returned (.tuple #[(.bool false),(.int .i64 0)])) w38) (k2 (v0,v2,v3,v9,v13,t33,t34,t35,t55,t56,(IntKind.wrap .i64 (t57+1)),()) w38)) w36) w34) w32) w) (k1 (v0,v2,v3,v9,v13,t33,t34,(IntKind.wrap .i64 (t35+1)),()) w)
def kS_Agrees.l2(R:EPq)(k1:((Option Addr)×Sl×Sl×Addr×Sl×Sl×Int×Int×Unit)→WPq):((Option Addr)×Sl×Sl×Addr×Sl×Sl×Int×Int×Sl×Int×Int×Unit)→World→Prop:=arZ (fun k2 s w=>kS_Agrees.b2 R k1 k2 s.1 s.2.1 s.2.2.1 s.2.2.2.1 s.2.2.2.2.1 s.2.2.2.2.2.1 s.2.2.2.2.2.2.1 s.2.2.2.2.2.2.2.1 s.2.2.2.2.2.2.2.2.1 s.2.2.2.2.2.2.2.2.2.1 s.2.2.2.2.2.2.2.2.2.2.1 w)
def kS_Agrees.b1(R:EPq)(k1:((Option Addr)×Sl×Sl×Addr×Sl×Sl×Int×Int×Unit)→WPq)(v0:(Option Addr))(v2:Sl)(v3:Sl)(v9:Addr)(v13:Sl)(t33:Sl)(t34:Int)(t35:Int)(w:World):Prop:=
 Cd (decide (t35<t34)) (Pu Tryz.prog (Instr.indexAt 30 (.slice t33.base t33.len t33.cap) (.int .i64 t35)) (.one (.at .addr)) (fun(x13:Addr) w14=>
 Rd Tryz.prog (Instr.loadAt 24 (.pointer (some x13))) (.one (.at .sl)) (fun(x15:Sl) w16=>
 Rd Tryz.prog (Instr.loadAt 3 (.pointer (some v9))) (.one (.at (.int .i64))) (fun(x17:Int) w18=>
 Cl Tryz.prog 57 #[(.pointer v0),(.slice x15.base x15.len x15.cap),(.slice v2.base v2.len v2.cap),(.int .i64 x17),(.slice v13.base v13.len v13.cap)] (.tup []) (fun x19 w20=>
 Pu Tryz.prog (Instr.indexAt 30 (.slice v3.base v3.len v3.cap) (.int .i64 t35)) (.one (.at .addr)) (fun(x21:Addr) w22=>
 RdS Tryz.prog (Same w20.drew) (Instr.loadAt 24 (.pointer (some x21))) (.one (.at .sl)) (fun(x23:Sl) w24=>
 RdS Tryz.prog (Same w20.drew) (Instr.loadAt 3 (.pointer (some v9))) (.one (.at (.int .i64))) (fun(x25:Int) w26=>
 RdS Tryz.prog (Same w20.drew) (Instr.loadAt 3 (.pointer (some (Addr.add v9 1)))) (.one (.at (.int .i64))) (fun(x27:Int) w28=>
 Pu Tryz.prog (Instr.sliceAt 24 (.slice x23.base x23.len x23.cap) (some (.int .i64 x25)) (some (.int .i64 x27)) none) (.one (.at .sl)) (fun(x29:Sl) w30=>
 kS_Agrees.l2 R k1 (v0,v2,v3,v9,v13,t33,t34,t35,x29,((x29.len:Nat):Int),0,()) w30) w28) w26) w24) w22) w20.drew) w18) w16) w14) w) (R (.returned (.tuple #[(.bool true),(.int .i64 0)])) w)
def kS_Agrees.l1(R:EPq):((Option Addr)×Sl×Sl×Addr×Sl×Sl×Int×Int×Unit)→World→Prop:=arZ (fun k1 s w=>kS_Agrees.b1 R k1 s.1 s.2.1 s.2.2.1 s.2.2.2.1 s.2.2.2.2.1 s.2.2.2.2.2.1 s.2.2.2.2.2.2.1 s.2.2.2.2.2.2.2.1 w)
def kS_Agrees.M(R:EPq)(v0:(Option Addr))(v1:Sl)(v2:Sl)(v3:Sl)(v4:(Int×Int×Unit))(w:World):Prop:=
 Wr Tryz.prog (Instr.box 41 (.agg #[(.int .i64 v4.1),(.int .i64 v4.2.1)])) (.one (.at .addr)) (fun(x1:Addr) w2=>
 Rd Tryz.prog (Instr.loadAt 41 (.pointer (some x1))) (.one (.agg [.int .i64,.int .i64])) (fun x3 w4=>
 Cl Tryz.prog 56 #[(.pointer v0),(.slice v1.base v1.len v1.cap),(.slice v2.base v2.len v2.cap),(.slice v3.base v3.len v3.cap),(.agg #[(.int .i64 x3.1),(.int .i64 x3.2.1)])] (.one (.at (.int .i64))) (fun(x5:Int) w6=>
 Cd (x5 !=0) (R (.returned (.tuple #[(.bool false),(.int .i64 x5)])) w6) (Rd Tryz.prog (Instr.loadAt 3 (.pointer (some (Addr.add x1 1)))) (.one (.at (.int .i64))) (fun(x7:Int) w8=>
 Rd Tryz.prog (Instr.loadAt 3 (.pointer (some x1))) (.one (.at (.int .i64))) (fun(x9:Int) w10=>
 Wr Tryz.prog (Instr.makeSlice 24 (.int .i64 (IntKind.wrap .i64 (x7-x9))) (.int .i64 (IntKind.wrap .i64 (x7-x9)))) (.one (.at .sl)) (fun(x11:Sl) w12=>
 kS_Agrees.l1 R (v0,v2,v3,x1,x11,v1,((v1.len:Nat):Int),0,()) w12) w10) w8) w6)) w4) w2) w
noncomputable def kS_Agrees.ann(R:EPq):Ann:=
 .seq (.reg (.op 0 (.wr (.one (.at .addr))) (.op 1 .now (.op 2 .now (.done))))) (.seq (.seq (.reg (.op 0 .now (.op 1 .now (.op 2 .now (.op 3 .now (.op 4 (.rd (.one (.agg [.int .i64,.int .i64]))) (.op 5 (.cl (.one qcI)) (.op 6 .now (.done))))))))) (.seq (.reg qN2) (.cond (.seq (.reg qN3) (.leaf)) (.leaf)))) (.seq (.reg (.op 0 .now (.op 1 (.rd (.one qcI)) (.op 2 .now (.op 3 (.rd (.one qcI)) (.op 4 .now (.op 5 (.wr (.one qcS)) (.op 6 .now (.done))))))))) (.seq (.seq (.reg qN3) (.block (.loop [(0,qcP),(2,qcS),(3,qcS),(9,.at .addr),(13,qcS),(33,qcS),(34,qcI),(35,qcI)] (fun k1 s w=>kS_Agrees.b1 R k1 s.1 s.2.1 s.2.2.1 s.2.2.2.1 s.2.2.2.2.1 s.2.2.2.2.2.1 s.2.2.2.2.2.2.1 s.2.2.2.2.2.2.2.1 w) (fun k1=>.seq (.reg qN1) (.seq (.cond (.leaf) (.leaf)) (.seq (.block (.seq (.reg (.op 0 .now (.op 1 qpA (.op 2 qrS (.op 3 .now (.op 4 .now (.done))))))) (.seq (.reg (.op 0 .now (.op 1 .now (.op 2 .now (.op 3 .now (.op 4 (.rd (.one qcI)) (.op 5 .now (.op 6 (.cl (.tup [])) (.done))))))))) (.seq (.regQ (.op 0 .now (.op 1 .now (.op 2 qpA (.op 3 qrS (.op 4 .now (.op 5 (.rd (.one qcI)) (.op 6 .now (.op 7 (.rd (.one qcI)) (.op 8 (.pu (.one qcS)) (.op 9 .now (.op 10 .now (.done))))))))))))) (.block (.loop [(0,qcP),(2,qcS),(3,qcS),(9,.at .addr),(13,qcS),(33,qcS),(34,qcI),(35,qcI),(55,qcS),(56,qcI),(57,qcI)] (fun k2 s w=>kS_Agrees.b2 R k1 k2 s.1 s.2.1 s.2.2.1 s.2.2.2.1 s.2.2.2.2.1 s.2.2.2.2.2.1 s.2.2.2.2.2.2.1 s.2.2.2.2.2.2.2.1 s.2.2.2.2.2.2.2.2.1 s.2.2.2.2.2.2.2.2.2.1 s.2.2.2.2.2.2.2.2.2.2.1 w) (fun k2=>.seq (.reg qN1) (.seq (.cond (.leaf) (.leaf)) (.seq (.block (.seq (.reg (.op 0 .now (.op 1 qpA (.op 2 qrB (.op 3 .now (.op 4 .now (.done))))))) (.seq (.reg (.op 0 .now (.op 1 .now (.op 2 .now (.op 3 qpA (.op 4 qrB (.op 5 .now (.done)))))))) (.cond (.seq (.reg qN2) (.leaf)) (.leaf))))) (.reg qN2)))))))))) (.reg qN2))))))) (.seq (.reg qN2) (.leaf)))))
theorem kS_Agrees.run(R:EPq)(v0:(Option Addr))(v1:Sl)(v2:Sl)(v3:Sl)(v4:(Int×Int×Unit))(w:World)(h:kS_Agrees.M R v0 v1 v2 v3 v4 w):Calls Tryz.prog 36 #[(.pointer v0),(.slice v1.base v1.len v1.cap),(.slice v2.base v2.len v2.cap),(.slice v3.base v3.len v3.cap),(.agg #[(.int .i64 v4.1),(.int .i64 v4.2.1)])] w R:=by
 refine aaZ ayZ Tryz.func36 (c:=kS_Agrees.body) (by kernel_rfl) [.at .bool,.at (.int .i64)] (kS_Agrees.ann R) 70 Tryz.ntmps36 [.tmp 10,.tmp 11] (by kernel_rfl) (Nat.le_of_ble_eq_true (by kernel_rfl)) ?_ ?_
 ·exact⟨tv,⟨⟨tv,⟨tv,⟨⟨tv,tv⟩,tv⟩⟩⟩,⟨tv,⟨⟨tv,(fun k1=>⟨fun s w=>mq,⟨tv,⟨⟨tv,tv⟩,⟨⟨tv,⟨tv,⟨(show Region.noSelect _=true by kernel_rfl),(fun k2=>⟨fun s w=>mq,⟨tv,⟨⟨tv,tv⟩,⟨⟨tv,⟨tv,⟨⟨tv,tv⟩,tv⟩⟩⟩,tv⟩⟩⟩⟩)⟩⟩⟩,tv⟩⟩⟩⟩)⟩,⟨tv,tv⟩⟩⟩⟩⟩
 ·exact Eq.mp (show kS_Agrees.M R v0 v1 v2 v3 v4 w=_ by kernel_rfl) h
noncomputable def kS_Apply.body:Code:=(Tryz.f45.body).getD .skip
def kS_Apply.b1(R:EPq)(k1:((Option Addr)×Sl×Sl×Addr×Sl×Int×Int×Unit)→WPq)(v0:(Option Addr))(v2:Sl)(v3:Sl)(v9:Addr)(t23:Sl)(t24:Int)(t25:Int)(w:World):Prop:=
 Cd (decide (t25<t24)) (Pu Tryz.prog (Instr.indexAt 30 (.slice t23.base t23.len t23.cap) (.int .i64 t25)) (.one (.at .addr)) (fun(x7:Addr) w8=>
 Rd Tryz.prog (Instr.loadAt 24 (.pointer (some x7))) (.one (.at .sl)) (fun(x9:Sl) w10=>
 Held w10.drew (fun S11=>RdS Tryz.prog S11 (Instr.loadAt 3 (.pointer (some v9))) (.one (.at (.int .i64))) (fun(x12:Int) w13=>
 Pu Tryz.prog (Instr.indexAt 30 (.slice v3.base v3.len v3.cap) (.int .i64 t25)) (.one (.at .addr)) (fun(x14:Addr) w15=>
 RdS Tryz.prog S11 (Instr.loadAt 24 (.pointer (some x14))) (.one (.at .sl)) (fun(x16:Sl) w17=>
 RdS Tryz.prog S11 (Instr.loadAt 3 (.pointer (some v9))) (.one (.at (.int .i64))) (fun(x18:Int) w19=>
 RdS Tryz.prog S11 (Instr.loadAt 3 (.pointer (some (Addr.add v9 1)))) (.one (.at (.int .i64))) (fun(x20:Int) w21=>
 Pu Tryz.prog (Instr.sliceAt 24 (.slice x16.base x16.len x16.cap) (some (.int .i64 x18)) (some (.int .i64 x20)) none) (.one (.at .sl)) (fun(x22:Sl) w23=>
 Cl Tryz.prog 57 #[(.pointer v0),(.slice x9.base x9.len x9.cap),(.slice v2.base v2.len v2.cap),(.int .i64 x12),(.slice x22.base x22.len x22.cap)] (.tup []) (fun x24 w25=>
 S11 w25∧(k1 (v0,v2,v3,v9,t23,t24,(IntKind.wrap .i64 (t25+1)),()) w25)) w23) w21) w19) w17) w15) w13) w10.drew)) w8) w) (R (.returned (.int .i64 0)) w)
def kS_Apply.l1(R:EPq):((Option Addr)×Sl×Sl×Addr×Sl×Int×Int×Unit)→World→Prop:=arZ (fun k1 s w=>kS_Apply.b1 R k1 s.1 s.2.1 s.2.2.1 s.2.2.2.1 s.2.2.2.2.1 s.2.2.2.2.2.1 s.2.2.2.2.2.2.1 w)
def kS_Apply.M(R:EPq)(v0:(Option Addr))(v1:Sl)(v2:Sl)(v3:Sl)(v4:(Int×Int×Unit))(w:World):Prop:=
 Wr Tryz.prog (Instr.box 41 (.agg #[(.int .i64 v4.1),(.int .i64 v4.2.1)])) (.one (.at .addr)) (fun(x1:Addr) w2=>
 Rd Tryz.prog (Instr.loadAt 41 (.pointer (some x1))) (.one (.agg [.int .i64,.int .i64])) (fun x3 w4=>
 Cl Tryz.prog 56 #[(.pointer v0),(.slice v1.base v1.len v1.cap),(.slice v2.base v2.len v2.cap),(.slice v3.base v3.len v3.cap),(.agg #[(.int .i64 x3.1),(.int .i64 x3.2.1)])] (.one (.at (.int .i64))) (fun(x5:Int) w6=>
 Cd (x5 !=0) (R (.returned (.int .i64 x5)) w6) (kS_Apply.l1 R (v0,v2,v3,x1,v1,((v1.len:Nat):Int),0,()) w6)) w4) w2) w
noncomputable def kS_Apply.ann(R:EPq):Ann:=
 .seq (.reg (.op 0 (.wr (.one (.at .addr))) (.op 1 .now (.done)))) (.seq (.seq (.reg (.op 0 .now (.op 1 .now (.op 2 .now (.op 3 .now (.op 4 (.rd (.one (.agg [.int .i64,.int .i64]))) (.op 5 (.cl (.one qcI)) (.op 6 .now (.done))))))))) (.seq (.reg qN2) (.cond (.seq (.reg qN2) (.leaf)) (.leaf)))) (.seq (.seq (.reg qN3) (.block (.loop [(0,qcP),(2,qcS),(3,qcS),(9,.at .addr),(23,qcS),(24,qcI),(25,qcI)] (fun k1 s w=>kS_Apply.b1 R k1 s.1 s.2.1 s.2.2.1 s.2.2.2.1 s.2.2.2.2.1 s.2.2.2.2.2.1 s.2.2.2.2.2.2.1 w) (fun k1=>.seq (.reg qN1) (.seq (.cond (.leaf) (.leaf)) (.seq (.block (.seq (.reg (.op 0 .now (.op 1 qpA (.op 2 qrS (.op 3 .now (.op 4 .now (.done))))))) (.regD (.op 0 .now (.op 1 .now (.op 2 .now (.op 3 .now (.op 4 (.rd (.one qcI)) (.op 5 .now (.op 6 .now (.op 7 qpA (.op 8 qrS (.op 9 .now (.op 10 (.rd (.one qcI)) (.op 11 .now (.op 12 (.rd (.one qcI)) (.op 13 (.pu (.one qcS)) (.op 14 (.cl (.tup [])) (.done))))))))))))))))))) (.reg qN2))))))) (.seq (.reg qN1) (.leaf))))
theorem kS_Apply.run(R:EPq)(v0:(Option Addr))(v1:Sl)(v2:Sl)(v3:Sl)(v4:(Int×Int×Unit))(w:World)(h:kS_Apply.M R v0 v1 v2 v3 v4 w):Calls Tryz.prog 45 #[(.pointer v0),(.slice v1.base v1.len v1.cap),(.slice v2.base v2.len v2.cap),(.slice v3.base v3.len v3.cap),(.agg #[(.int .i64 v4.1),(.int .i64 v4.2.1)])] w R:=by
 refine aaZ ayZ Tryz.func45 (c:=kS_Apply.body) (by kernel_rfl) [.at (.int .i64)] (kS_Apply.ann R) 46 Tryz.ntmps45 [.tmp 10] (by kernel_rfl) (Nat.le_of_ble_eq_true (by kernel_rfl)) ?_ ?_
 ·exact⟨tv,⟨⟨tv,⟨tv,⟨⟨tv,tv⟩,tv⟩⟩⟩,⟨⟨tv,(fun k1=>⟨fun s w=>mq,⟨tv,⟨⟨tv,tv⟩,⟨⟨tv,(show Region.noSelect _=true by kernel_rfl)⟩,tv⟩⟩⟩⟩)⟩,⟨tv,tv⟩⟩⟩⟩
 ·exact Eq.mp (show kS_Apply.M R v0 v1 v2 v3 v4 w=_ by kernel_rfl) h
noncomputable def kernel_Xor.body:Code:=(Tryz.f46.body).getD .skip
def kernel_Xor.b1(R:EPq)(k1:(Sl×Sl×Int×Int×Unit)→WPq)(v0:Sl)(t12:Sl)(t13:Int)(t14:Int)(w:World):Prop:=
 Cd (decide (t14<t13)) (Pu Tryz.prog (Instr.indexAt 24 (.slice t12.base t12.len t12.cap) (.int .i64 t14)) (.one (.at .addr)) (fun(x1:Addr) w2=>
 Rd Tryz.prog (Instr.loadAt 5 (.pointer (some x1))) (.one (.at (.int .u8))) (fun(x3:Int) w4=>
 Pu Tryz.prog (Instr.indexAt 24 (.slice v0.base v0.len v0.cap) (.int .i64 t14)) (.one (.at .addr)) (fun(x5:Addr) w6=>
 Rd Tryz.prog (Instr.loadAt 5 (.pointer (some x5))) (.one (.at (.int .u8))) (fun(x7:Int) w8=>
 Pu Tryz.prog (Instr.indexAt 24 (.slice v0.base v0.len v0.cap) (.int .i64 t14)) (.one (.at .addr)) (fun(x9:Addr) w10=>
 Wu Tryz.prog (Instr.storeAt 5 (.pointer (some x9)) (.int .u8 (bXor .u8 x7 x3))) (fun w11=>
 k1 (v0,t12,t13,(IntKind.wrap .i64 (t14+1)),()) w11) w10) w8) w6) w4) w2) w) (R (.returned (.int .i64 0)) w)
def kernel_Xor.l1(R:EPq):(Sl×Sl×Int×Int×Unit)→World→Prop:=arZ (fun k1 s w=>kernel_Xor.b1 R k1 s.1 s.2.1 s.2.2.1 s.2.2.2.1 w)
def kernel_Xor.M(R:EPq)(v0:Sl)(v1:Sl)(w:World):Prop:=
 Cd (((v0.len:Nat):Int) !=((v1.len:Nat):Int)) (R (.returned (.int .i64 6)) w) (kernel_Xor.l1 R (v0,v1,((v1.len:Nat):Int),0,()) w)
noncomputable def kernel_Xor.ann(R:EPq):Ann:=
 .seq (.reg qN1) (.seq (.seq (.reg qN5) (.cond (.seq (.reg qN1) (.leaf)) (.leaf))) (.seq (.seq (.reg qN3) (.block (.loop [(0,qcS),(12,qcS),(13,qcI),(14,qcI)] (fun k1 s w=>kernel_Xor.b1 R k1 s.1 s.2.1 s.2.2.1 s.2.2.2.1 w) (fun k1=>.seq (.reg qN1) (.seq (.cond (.leaf) (.leaf)) (.seq (.block (.seq (.reg (.op 0 .now (.op 1 qpA (.op 2 qrB (.op 3 .now (.op 4 .now (.done))))))) (.reg (.op 0 .now (.op 1 .now (.op 2 qpA (.op 3 qrB (.op 4 .now (.op 5 .now (.op 6 qpA (.op 7 .wu (.done)))))))))))) (.reg qN2))))))) (.seq (.reg qN1) (.leaf))))
theorem kernel_Xor.run(R:EPq)(v0:Sl)(v1:Sl)(w:World)(h:kernel_Xor.M R v0 v1 w):Calls Tryz.prog 46 #[(.slice v0.base v0.len v0.cap),(.slice v1.base v1.len v1.cap)] w R:=by
 refine aaZ ayZ Tryz.func46 (c:=kernel_Xor.body) (by kernel_rfl) [.at (.int .i64)] (kernel_Xor.ann R) 27 Tryz.ntmps46 [.tmp 4] (by kernel_rfl) (Nat.le_of_ble_eq_true (by kernel_rfl)) ?_ ?_
 ·exact⟨tv,⟨⟨tv,⟨⟨tv,tv⟩,tv⟩⟩,⟨⟨tv,(fun k1=>⟨fun s w=>mq,⟨tv,⟨⟨tv,tv⟩,⟨⟨tv,tv⟩,tv⟩⟩⟩⟩)⟩,⟨tv,tv⟩⟩⟩⟩
 ·exact Eq.mp (show kernel_Xor.M R v0 v1 w=_ by kernel_rfl) h
noncomputable def kS_Spread.body:Code:=(Tryz.f47.body).getD .skip
def kS_Spread.b2(R:EPq)(k2:((Option Addr)×Sl×Sl×Addr×Sl×Int×Int×Unit)→WPq)(v0:(Option Addr))(v2:Sl)(v3:Sl)(v9:Addr)(t50:Sl)(t51:Int)(t52:Int)(w:World):Prop:=
 Cd (decide (t52<t51)) (Pu Tryz.prog (Instr.indexAt 24 (.slice t50.base t50.len t50.cap) (.int .i64 t52)) (.one (.at .addr)) (fun(x11:Addr) w12=>
 Rd Tryz.prog (Instr.loadAt 5 (.pointer (some x11))) (.one (.at (.int .u8))) (fun(x13:Int) w14=>
 Held w14.drew (fun S15=>Pu Tryz.prog (amZ v0) (.one (.at .addr)) (fun(x16:Addr) w17=>
 RdS Tryz.prog S15 (Instr.loadAt 132 (.pointer (some x16))) (.one (.at .any)) (fun x18 w19=>
 Pu Tryz.prog (Instr.indexAt 30 (.slice v3.base v3.len v3.cap) (.int .i64 t52)) (.one (.at .addr)) (fun(x20:Addr) w21=>
 RdS Tryz.prog S15 (Instr.loadAt 24 (.pointer (some x20))) (.one (.at .sl)) (fun(x22:Sl) w23=>
 RdS Tryz.prog S15 (Instr.loadAt 3 (.pointer (some v9))) (.one (.at (.int .i64))) (fun(x24:Int) w25=>
 RdS Tryz.prog S15 (Instr.loadAt 3 (.pointer (some (Addr.add v9 1)))) (.one (.at (.int .i64))) (fun(x26:Int) w27=>
 Pu Tryz.prog (Instr.sliceAt 24 (.slice x22.base x22.len x22.cap) (some (.int .i64 x24)) (some (.int .i64 x26)) none) (.one (.at .sl)) (fun(x28:Sl) w29=>
 RdS Tryz.prog S15 (Instr.loadAt 3 (.pointer (some v9))) (.one (.at (.int .i64))) (fun(x30:Int) w31=>
 RdS Tryz.prog S15 (Instr.loadAt 3 (.pointer (some (Addr.add v9 1)))) (.one (.at (.int .i64))) (fun(x32:Int) w33=>
 Pu Tryz.prog (Instr.sliceAt 24 (.slice v2.base v2.len v2.cap) (some (.int .i64 x30)) (some (.int .i64 x32)) none) (.one (.at .sl)) (fun(x34:Sl) w35=>
 Nx Tryz.prog (nilAny x18) (.one (.at .any)) (fun x36 w37=>
 S15 w37 ∧ (Nx Tryz.prog (callMethod x18 "MulAdd" #[(.int .u8 x13), (.slice x28.base x28.len x28.cap), (.slice x34.base x34.len x34.cap)]) (.one (.at (.int .i64))) (fun (x38 : Int) w39 =>
 S15 w39∧(k2 (v0,v2,v3,v9,t50,t51,(IntKind.wrap .i64 (t52+1)),()) w39)) w37)) w35) w33) w31) w29) w27) w25) w23) w21) w19) w17) w14.drew)) w12) w) (R (.returned (.int .i64 0)) w)
def kS_Spread.l2(R:EPq):((Option Addr)×Sl×Sl×Addr×Sl×Int×Int×Unit)→World→Prop:=arZ (fun k2 s w=>kS_Spread.b2 R k2 s.1 s.2.1 s.2.2.1 s.2.2.2.1 s.2.2.2.2.1 s.2.2.2.2.2.1 s.2.2.2.2.2.2.1 w)
def kS_Spread.b1(R:EPq)(k1:((Option Addr)×Sl×Sl×Sl×Addr×Sl×Int×Int×Unit)→WPq)(v0:(Option Addr))(v1:Sl)(v2:Sl)(v3:Sl)(v9:Addr)(t31:Sl)(t32:Int)(t33:Int)(w:World):Prop:=
 Cd (decide (t33<t32)) (Pu Tryz.prog (Instr.indexAt 30 (.slice t31.base t31.len t31.cap) (.int .i64 t33)) (.one (.at .addr)) (fun(x3:Addr) w4=>
 Rd Tryz.prog (Instr.loadAt 24 (.pointer (some x3))) (.one (.at .sl)) (fun(x5:Sl) w6=>
 Cd (((x5.len:Nat):Int) !=((v2.len:Nat):Int)) (R (.returned (.int .i64 6)) w6) (k1 (v0,v1,v2,v3,v9,t31,t32,(IntKind.wrap .i64 (t33+1)),()) w6)) w4) w) (Rd Tryz.prog (Instr.loadAt 41 (.pointer (some v9))) (.one (.agg [.int .i64,.int .i64])) (fun x7 w8=>
 Cl Tryz.prog 75 #[(.agg #[(.int .i64 x7.1),(.int .i64 x7.2.1)]),(.int .i64 ((v2.len:Nat):Int))] (.one (.at (.int .i64))) (fun(x9:Int) w10=>
 Cd (x9 !=0) (R (.returned (.int .i64 x9)) w10) (kS_Spread.l2 R (v0,v2,v3,v9,v1,((v1.len:Nat):Int),0,()) w10)) w8) w)
def kS_Spread.l1(R:EPq):((Option Addr)×Sl×Sl×Sl×Addr×Sl×Int×Int×Unit)→World→Prop:=arZ (fun k1 s w=>kS_Spread.b1 R k1 s.1 s.2.1 s.2.2.1 s.2.2.2.1 s.2.2.2.2.1 s.2.2.2.2.2.1 s.2.2.2.2.2.2.1 s.2.2.2.2.2.2.2.1 w)
def kS_Spread.j1(R:EPq)(v0:(Option Addr))(v1:Sl)(v2:Sl)(v3:Sl)(v9:Addr)(t25:Bool)(w:World):Prop:=
 Cd t25 (R (.returned (.int .i64 1)) w) (Cd (((v1.len:Nat):Int) !=((v3.len:Nat):Int)) (R (.returned (.int .i64 6)) w) (kS_Spread.l1 R (v0,v1,v2,v3,v9,v3,((v3.len:Nat):Int),0,()) w))
def kS_Spread.M(R:EPq)(v0:(Option Addr))(v1:Sl)(v2:Sl)(v3:Sl)(v4:(Int×Int×Unit))(w:World):Prop:=
 Wr Tryz.prog (Instr.box 41 (.agg #[(.int .i64 v4.1),(.int .i64 v4.2.1)])) (.one (.at .addr)) (fun(x1:Addr) w2=>
 Pu Tryz.prog (do eqGuard .eql 75 (.tmp 16) (.const (.pointer none)) (.pointer v0) (.pointer none);binOp .eql 75 (.pointer v0) (.pointer none)) (.one (.at .bool)) (fun(x40:Bool) w41=>
 Cd x40 (kS_Spread.j1 R v0 v1 v2 v3 x1 true w41) (Pu Tryz.prog (amZ v0) (.one (.at .addr)) (fun(x42:Addr) w43=>
 Rd Tryz.prog (Instr.loadAt 132 (.pointer (some x42))) (.one (.at .any)) (fun x44 w45=>
 Pu Tryz.prog (do eqGuard .eql 132 (.tmp 23) (.const .nilIface) x44 .nilIface;binOp .eql 132 x44 .nilIface) (.one (.at .bool)) (fun(x46:Bool) w47=>
 kS_Spread.j1 R v0 v1 v2 v3 x1 x46 w47) w45) w43) w41)) w2) w
noncomputable def kS_Spread.ann(R:EPq):Ann:=
 .seq (.reg (.op 0 (.wr (.one (.at .addr))) (.op 1 .now (.done)))) (.seq (.join [(0,qcP),(1,qcS),(2,qcS),(3,qcS),(9,.at .addr),(25,.at .bool)] (fun s w=>kS_Spread.j1 R s.1 s.2.1 s.2.2.1 s.2.2.2.1 s.2.2.2.2.1 s.2.2.2.2.2.1 w) (.reg (.op 0 .now (.op 1 (.pu (.one (.at .bool))) (.op 2 .now (.split 2 (.skip 3 (.skip 4 (.skip 5 (.skip 6 (.skip 7 (.skip 8 (.op 9 .now (.done)))))))) (.op 3 .now (.op 4 qpA (.op 5 .now (.op 6 .now (.op 7 (.rd (.one (.at .any))) (.op 8 (.pu (.one (.at .bool))) (.op 9 .now (.done))))))))))))) (.cond (.seq (.reg qN1) (.leaf)) (.leaf))) (.seq (.seq (.reg qN5) (.cond (.seq (.reg qN1) (.leaf)) (.leaf))) (.seq (.seq (.reg qN3) (.block (.loop [(0,qcP),(1,qcS),(2,qcS),(3,qcS),(9,.at .addr),(31,qcS),(32,qcI),(33,qcI)] (fun k1 s w=>kS_Spread.b1 R k1 s.1 s.2.1 s.2.2.1 s.2.2.2.1 s.2.2.2.2.1 s.2.2.2.2.2.1 s.2.2.2.2.2.2.1 s.2.2.2.2.2.2.2.1 w) (fun k1=>.seq (.reg qN1) (.seq (.cond (.leaf) (.leaf)) (.seq (.block (.seq (.reg (.op 0 qpA (.op 1 qrS (.op 2 .now (.done))))) (.seq (.reg qN5) (.cond (.seq (.reg qN1) (.leaf)) (.leaf))))) (.reg qN2))))))) (.seq (.seq (.reg (.op 0 (.rd (.one (.agg [.int .i64,.int .i64]))) (.op 1 .now (.op 2 .now (.op 3 (.cl (.one qcI)) (.op 4 .now (.done))))))) (.seq (.reg qN2) (.cond (.seq (.reg qN2) (.leaf)) (.leaf)))) (.seq (.seq (.reg qN3) (.block (.loop [(0,qcP),(2,qcS),(3,qcS),(9,.at .addr),(50,qcS),(51,qcI),(52,qcI)] (fun k2 s w=>kS_Spread.b2 R k2 s.1 s.2.1 s.2.2.1 s.2.2.2.1 s.2.2.2.2.1 s.2.2.2.2.2.1 s.2.2.2.2.2.2.1 w) (fun k2=>.seq (.reg qN1) (.seq (.cond (.leaf) (.leaf)) (.seq (.block (.seq (.reg (.op 0 .now (.op 1 qpA (.op 2 qrB (.op 3 .now (.op 4 .now (.done))))))) (.regD (.op 0 .now (.op 1 qpA (.op 2 .now (.op 3 .now (.op 4 (.rd (.one (.at .any))) (.op 5 .now (.op 6 .now (.op 7 .now (.op 8 qpA (.op 9 qrS (.op 10 .now (.op 11 (.rd (.one qcI)) (.op 12 .now (.op 13 (.rd (.one qcI)) (.op 14 (.pu (.one qcS)) (.op 15 .now (.op 16 .now (.op 17 (.rd (.one qcI)) (.op 18 .now (.op 19 (.rd (.one qcI)) (.op 20 (.pu (.one qcS)) (.op 21 (.nx (.one (.at .any))) (.op 22 .now (.op 23 (.nx (.one qcI)) (.done)))))))))))))))))))))))))))) (.reg qN2))))))) (.seq (.reg qN1) (.leaf)))))))
theorem kS_Spread.run(R:EPq)(v0:(Option Addr))(v1:Sl)(v2:Sl)(v3:Sl)(v4:(Int×Int×Unit))(w:World)(h:kS_Spread.M R v0 v1 v2 v3 v4 w):Calls Tryz.prog 47 #[(.pointer v0),(.slice v1.base v1.len v1.cap),(.slice v2.base v2.len v2.cap),(.slice v3.base v3.len v3.cap),(.agg #[(.int .i64 v4.1),(.int .i64 v4.2.1)])] w R:=by
 refine aaZ ayZ Tryz.func47 (c:=kS_Spread.body) (by kernel_rfl) [.at (.int .i64)] (kS_Spread.ann R) 82 Tryz.ntmps47 [.tmp 10] (by kernel_rfl) (Nat.le_of_ble_eq_true (by kernel_rfl)) ?_ ?_
 ·exact⟨tv,⟨⟨fun s w=>mq,tv,⟨⟨tv,tv⟩,tv⟩⟩,⟨⟨tv,⟨⟨tv,tv⟩,tv⟩⟩,⟨⟨tv,(fun k1=>⟨fun s w=>mq,⟨tv,⟨⟨tv,tv⟩,⟨⟨tv,⟨tv,⟨⟨tv,tv⟩,tv⟩⟩⟩,tv⟩⟩⟩⟩)⟩,⟨⟨tv,⟨tv,⟨⟨tv,tv⟩,tv⟩⟩⟩,⟨⟨tv,(fun k2=>⟨fun s w=>mq,⟨tv,⟨⟨tv,tv⟩,⟨⟨tv,(show Region.noSelect _=true by kernel_rfl)⟩,tv⟩⟩⟩⟩)⟩,⟨tv,tv⟩⟩⟩⟩⟩⟩⟩
 ·exact Eq.mp (show kS_Spread.M R v0 v1 v2 v3 v4 w=_ by kernel_rfl) h
noncomputable def kS_fits.body:Code:=(Tryz.f56.body).getD .skip
def kS_fits.j2(R:EPq)(k2:(Addr×Int×(Sl×Sl×Unit)×Int×Unit)→WPq)(k3:(Addr×Int×(Sl×Sl×Unit)×Int×Sl×Int×Int×Unit)→WPq)(v9:Addr)(v13:Int)(v17:Sl)(t47:(Sl×Sl×Unit))(t48:Int)(t51:Sl)(t52:Int)(t53:Int)(w:World):Prop:=
 Cd (((v17.len:Nat):Int) !=v13) (R (.returned (.int .i64 6)) w) (k3 (v9,v13,(t47.1,t47.2.1,()),t48,t51,t52,(IntKind.wrap .i64 (t53+1)),()) w)
def kS_fits.b3(R:EPq)(k2:(Addr×Int×(Sl×Sl×Unit)×Int×Unit)→WPq)(k3:(Addr×Int×(Sl×Sl×Unit)×Int×Sl×Int×Int×Unit)→WPq)(v9:Addr)(v13:Int)(t47:(Sl×Sl×Unit))(t48:Int)(t51:Sl)(t52:Int)(t53:Int)(w:World):Prop:=
 Cd (decide (t53<t52)) (Pu Tryz.prog (Instr.indexAt 30 (.slice t51.base t51.len t51.cap) (.int .i64 t53)) (.one (.at .addr)) (fun(x9:Addr) w10=>
 Rd Tryz.prog (Instr.loadAt 24 (.pointer (some x9))) (.one (.at .sl)) (fun(x11:Sl) w12=>
 Cd (decide (v13<0)) (kS_fits.j2 R k2 k3 v9 ((x11.len:Nat):Int) x11 (t47.1,t47.2.1,()) t48 t51 t52 t53 w12) (kS_fits.j2 R k2 k3 v9 v13 x11 (t47.1,t47.2.1,()) t48 t51 t52 t53 w12)) w10) w) (k2 (v9,v13,(t47.1,t47.2.1,()),(IntKind.wrap .i64 (t48+1)),()) w)
def kS_fits.l3(R:EPq)(k2:(Addr×Int×(Sl×Sl×Unit)×Int×Unit)→WPq):(Addr×Int×(Sl×Sl×Unit)×Int×Sl×Int×Int×Unit)→World→Prop:=arZ (fun k3 s w=>kS_fits.b3 R k2 k3 s.1 s.2.1 s.2.2.1 s.2.2.2.1 s.2.2.2.2.1 s.2.2.2.2.2.1 s.2.2.2.2.2.2.1 w)
def kS_fits.b2(R:EPq)(k2:(Addr×Int×(Sl×Sl×Unit)×Int×Unit)→WPq)(v9:Addr)(v13:Int)(t47:(Sl×Sl×Unit))(t48:Int)(w:World):Prop:=
 Cd (decide (t48<2)) (Pu Tryz.prog (Instr.index 147 (.agg #[(.slice t47.1.base t47.1.len t47.1.cap),(.slice t47.2.1.base t47.2.1.len t47.2.1.cap)]) (.int .i64 t48)) (.one (.at .sl)) (fun(x7:Sl) w8=>
 kS_fits.l3 R k2 (v9,v13,(t47.1,t47.2.1,()),t48,x7,((x7.len:Nat):Int),0,()) w8) w) (Rd Tryz.prog (Instr.loadAt 41 (.pointer (some v9))) (.one (.agg [.int .i64,.int .i64])) (fun x13 w14=>
 Cl Tryz.prog 75 #[(.agg #[(.int .i64 x13.1),(.int .i64 x13.2.1)]),(.int .i64 (maxI v13 0))] (.one (.at (.int .i64))) (fun(x15:Int) w16=>
 R (.returned (.int .i64 x15)) w16) w14) w)
def kS_fits.l2(R:EPq):(Addr×Int×(Sl×Sl×Unit)×Int×Unit)→World→Prop:=arZ (fun k2 s w=>kS_fits.b2 R k2 s.1 s.2.1 s.2.2.1 s.2.2.2.1 w)
def kS_fits.b1(R:EPq)(k1:(Sl×Sl×Addr×Sl×Int×Int×Unit)→WPq)(v2:Sl)(v3:Sl)(v9:Addr)(t33:Sl)(t34:Int)(t35:Int)(w:World):Prop:=
 Cd (decide (t35<t34)) (Pu Tryz.prog (Instr.indexAt 30 (.slice t33.base t33.len t33.cap) (.int .i64 t35)) (.one (.at .addr)) (fun(x3:Addr) w4=>
 Rd Tryz.prog (Instr.loadAt 24 (.pointer (some x3))) (.one (.at .sl)) (fun(x5:Sl) w6=>
 Cd (((x5.len:Nat):Int) !=((v2.len:Nat):Int)) (R (.returned (.int .i64 6)) w6) (k1 (v2,v3,v9,t33,t34,(IntKind.wrap .i64 (t35+1)),()) w6)) w4) w) (kS_fits.l2 R (v9,(-1),(v2,v3,()),0,()) w)
def kS_fits.l1(R:EPq):(Sl×Sl×Addr×Sl×Int×Int×Unit)→World→Prop:=arZ (fun k1 s w=>kS_fits.b1 R k1 s.1 s.2.1 s.2.2.1 s.2.2.2.1 s.2.2.2.2.1 s.2.2.2.2.2.1 w)
def kS_fits.j1(R:EPq)(v1:Sl)(v2:Sl)(v3:Sl)(v9:Addr)(t27:Bool)(w:World):Prop:=
 Cd t27 (R (.returned (.int .i64 1)) w) (Cd (((v1.len:Nat):Int) !=((v3.len:Nat):Int)) (R (.returned (.int .i64 6)) w) (kS_fits.l1 R (v2,v3,v9,v1,((v1.len:Nat):Int),0,()) w))
def kS_fits.M(R:EPq)(v0:(Option Addr))(v1:Sl)(v2:Sl)(v3:Sl)(v4:(Int×Int×Unit))(w:World):Prop:=
 Wr Tryz.prog (Instr.box 41 (.agg #[(.int .i64 v4.1),(.int .i64 v4.2.1)])) (.one (.at .addr)) (fun(x1:Addr) w2=>
 Pu Tryz.prog (do eqGuard .eql 75 (.tmp 18) (.const (.pointer none)) (.pointer v0) (.pointer none);binOp .eql 75 (.pointer v0) (.pointer none)) (.one (.at .bool)) (fun(x17:Bool) w18=>
 Cd x17 (kS_fits.j1 R v1 v2 v3 x1 true w18) (Pu Tryz.prog (amZ v0) (.one (.at .addr)) (fun(x19:Addr) w20=>
 Rd Tryz.prog (Instr.loadAt 132 (.pointer (some x19))) (.one (.at .any)) (fun x21 w22=>
 Pu Tryz.prog (do eqGuard .eql 132 (.tmp 25) (.const .nilIface) x21 .nilIface;binOp .eql 132 x21 .nilIface) (.one (.at .bool)) (fun(x23:Bool) w24=>
 kS_fits.j1 R v1 v2 v3 x1 x23 w24) w22) w20) w18)) w2) w
noncomputable def kS_fits.ann(R:EPq):Ann:=
 .seq (.reg (.op 0 (.wr (.one (.at .addr))) (.op 1 .now (.done)))) (.seq (.join [(1,qcS),(2,qcS),(3,qcS),(9,.at .addr),(27,.at .bool)] (fun s w=>kS_fits.j1 R s.1 s.2.1 s.2.2.1 s.2.2.2.1 s.2.2.2.2.1 w) (.reg (.op 0 .now (.op 1 (.pu (.one (.at .bool))) (.op 2 .now (.split 2 (.skip 3 (.skip 4 (.skip 5 (.skip 6 (.skip 7 (.skip 8 (.op 9 .now (.done)))))))) (.op 3 .now (.op 4 qpA (.op 5 .now (.op 6 .now (.op 7 (.rd (.one (.at .any))) (.op 8 (.pu (.one (.at .bool))) (.op 9 .now (.done))))))))))))) (.cond (.seq (.reg qN1) (.leaf)) (.leaf))) (.seq (.seq (.reg qN5) (.cond (.seq (.reg qN1) (.leaf)) (.leaf))) (.seq (.seq (.reg qN3) (.block (.loop [(2,qcS),(3,qcS),(9,.at .addr),(33,qcS),(34,qcI),(35,qcI)] (fun k1 s w=>kS_fits.b1 R k1 s.1 s.2.1 s.2.2.1 s.2.2.2.1 s.2.2.2.2.1 s.2.2.2.2.2.1 w) (fun k1=>.seq (.reg qN1) (.seq (.cond (.leaf) (.leaf)) (.seq (.block (.seq (.reg (.op 0 qpA (.op 1 qrS (.op 2 .now (.done))))) (.seq (.reg qN5) (.cond (.seq (.reg qN1) (.leaf)) (.leaf))))) (.reg qN2))))))) (.seq (.reg qN1) (.seq (.seq (.reg qN4) (.block (.loop [(9,.at .addr),(13,qcI),(47,.agg [.sl,.sl]),(48,qcI)] (fun k2 s w=>kS_fits.b2 R k2 s.1 s.2.1 s.2.2.1 s.2.2.2.1 w) (fun k2=>.seq (.reg qN1) (.seq (.cond (.leaf) (.leaf)) (.seq (.block (.seq (.reg (.op 0 (.pu (.one qcS)) (.op 1 .now (.done)))) (.seq (.reg qN3) (.block (.loop [(9,.at .addr),(13,qcI),(47,.agg [.sl,.sl]),(48,qcI),(51,qcS),(52,qcI),(53,qcI)] (fun k3 s w=>kS_fits.b3 R k2 k3 s.1 s.2.1 s.2.2.1 s.2.2.2.1 s.2.2.2.2.1 s.2.2.2.2.2.1 s.2.2.2.2.2.2.1 w) (fun k3=>.seq (.reg qN1) (.seq (.cond (.leaf) (.leaf)) (.seq (.block (.seq (.reg (.op 0 qpA (.op 1 qrS (.op 2 .now (.done))))) (.join [(9,.at .addr),(13,qcI),(17,qcS),(47,.agg [.sl,.sl]),(48,qcI),(51,qcS),(52,qcI),(53,qcI)] (fun s w=>kS_fits.j2 R k2 k3 s.1 s.2.1 s.2.2.1 s.2.2.2.1 s.2.2.2.2.1 s.2.2.2.2.2.1 s.2.2.2.2.2.2.1 s.2.2.2.2.2.2.2.1 w) (.seq (.reg qN2) (.cond (.reg qN3) (.leaf))) (.seq (.reg qN4) (.cond (.seq (.reg qN1) (.leaf)) (.leaf)))))) (.reg qN2))))))))) (.reg qN2))))))) (.seq (.reg (.op 0 (.rd (.one (.agg [.int .i64,.int .i64]))) (.op 1 .now (.op 2 .now (.op 3 (.cl (.one qcI)) (.op 4 .now (.done))))))) (.leaf)))))))
theorem kS_fits.run(R:EPq)(v0:(Option Addr))(v1:Sl)(v2:Sl)(v3:Sl)(v4:(Int×Int×Unit))(w:World)(h:kS_fits.M R v0 v1 v2 v3 v4 w):Calls Tryz.prog 56 #[(.pointer v0),(.slice v1.base v1.len v1.cap),(.slice v2.base v2.len v2.cap),(.slice v3.base v3.len v3.cap),(.agg #[(.int .i64 v4.1),(.int .i64 v4.2.1)])] w R:=by
 refine aaZ ayZ Tryz.func56 (c:=kS_fits.body) (by kernel_rfl) [.at (.int .i64)] (kS_fits.ann R) 71 Tryz.ntmps56 [.tmp 10] (by kernel_rfl) (Nat.le_of_ble_eq_true (by kernel_rfl)) ?_ ?_
 ·exact⟨tv,⟨⟨fun s w=>mq,tv,⟨⟨tv,tv⟩,tv⟩⟩,⟨⟨tv,⟨⟨tv,tv⟩,tv⟩⟩,⟨⟨tv,(fun k1=>⟨fun s w=>mq,⟨tv,⟨⟨tv,tv⟩,⟨⟨tv,⟨tv,⟨⟨tv,tv⟩,tv⟩⟩⟩,tv⟩⟩⟩⟩)⟩,⟨tv,⟨⟨tv,(fun k2=>⟨fun s w=>mq,⟨tv,⟨⟨tv,tv⟩,⟨⟨tv,⟨tv,(fun k3=>⟨fun s w=>mq,⟨tv,⟨⟨tv,tv⟩,⟨⟨tv,⟨fun s w=>mq,⟨tv,⟨tv,tv⟩⟩,⟨tv,⟨⟨tv,tv⟩,tv⟩⟩⟩⟩,tv⟩⟩⟩⟩)⟩⟩,tv⟩⟩⟩⟩)⟩,⟨tv,tv⟩⟩⟩⟩⟩⟩⟩
 ·exact Eq.mp (show kS_fits.M R v0 v1 v2 v3 v4 w=_ by kernel_rfl) h
noncomputable def kS_sum.body:Code:=(Tryz.f57.body).getD .skip
def kS_sum.j1(R:EPq)(k1:((Option Addr)×Sl×Int×Sl×Sl×Int×Int×Unit)→WPq)(v0:(Option Addr))(v2:Sl)(v3:Int)(v4:Sl)(t13:Sl)(t14:Int)(t15:Int)(w:World):Prop:=
 k1 (v0,v2,v3,v4,t13,t14,(IntKind.wrap .i64 (t15+1)),()) w
def kS_sum.b1(R:EPq)(k1:((Option Addr)×Sl×Int×Sl×Sl×Int×Int×Unit)→WPq)(v0:(Option Addr))(v2:Sl)(v3:Int)(v4:Sl)(t13:Sl)(t14:Int)(t15:Int)(w:World):Prop:=
 Cd (decide (t15<t14)) (Pu Tryz.prog (Instr.indexAt 24 (.slice t13.base t13.len t13.cap) (.int .i64 t15)) (.one (.at .addr)) (fun(x3:Addr) w4=>
 Rd Tryz.prog (Instr.loadAt 5 (.pointer (some x3))) (.one (.at (.int .u8))) (fun(x5:Int) w6=>
 Held w6.drew (fun S7=>Pu Tryz.prog (amZ v0) (.one (.at .addr)) (fun(x8:Addr) w9=>
 RdS Tryz.prog S7 (Instr.loadAt 132 (.pointer (some x8))) (.one (.at .any)) (fun x10 w11=>
 Pu Tryz.prog (Instr.indexAt 30 (.slice v2.base v2.len v2.cap) (.int .i64 t15)) (.one (.at .addr)) (fun(x12:Addr) w13=>
 RdS Tryz.prog S7 (Instr.loadAt 24 (.pointer (some x12))) (.one (.at .sl)) (fun(x14:Sl) w15=>
 Pu Tryz.prog (Instr.sliceAt 24 (.slice x14.base x14.len x14.cap) (some (.int .i64 v3)) (some (.int .i64 (IntKind.wrap .i64 (v3+((v4.len:Nat):Int))))) none) (.one (.at .sl)) (fun(x16:Sl) w17=>
 Nx Tryz.prog (nilAny x10) (.one (.at .any)) (fun x18 w19=>
 S7 w19 ∧ (Nx Tryz.prog (callMethod x10 "MulAdd" #[(.int .u8 x5), (.slice v4.base v4.len v4.cap), (.slice x16.base x16.len x16.cap)]) (.one (.at (.int .i64))) (fun (x20 : Int) w21 =>
 S7 w21∧(kS_sum.j1 R k1 v0 v2 v3 v4 t13 t14 t15 w21)) w19)) w17) w15) w13) w11) w9) w6.drew)) w4) w) (R (.returned (.tuple #[])) w)
def kS_sum.l1(R:EPq):((Option Addr)×Sl×Int×Sl×Sl×Int×Int×Unit)→World→Prop:=arZ (fun k1 s w=>kS_sum.b1 R k1 s.1 s.2.1 s.2.2.1 s.2.2.2.1 s.2.2.2.2.1 s.2.2.2.2.2.1 s.2.2.2.2.2.2.1 w)
def kS_sum.M(R:EPq)(v0:(Option Addr))(v1:Sl)(v2:Sl)(v3:Int)(v4:Sl)(w:World):Prop:=
 Wr Tryz.prog (Builtin.clear_ #[24] 0 #[(.slice v4.base v4.len v4.cap)]) (.one (.at .any)) (fun x1 w2=>
 kS_sum.l1 R (v0,v2,v3,v4,v1,((v1.len:Nat):Int),0,()) w2) w
noncomputable def kS_sum.ann(R:EPq):Ann:=
 .seq (.reg (.op 0 .now (.op 1 (.wr (.one (.at .any))) (.done)))) (.seq (.reg qN3) (.block (.loop [(0,qcP),(2,qcS),(3,qcI),(4,qcS),(13,qcS),(14,qcI),(15,qcI)] (fun k1 s w=>kS_sum.b1 R k1 s.1 s.2.1 s.2.2.1 s.2.2.2.1 s.2.2.2.2.1 s.2.2.2.2.2.1 s.2.2.2.2.2.2.1 w) (fun k1=>.seq (.reg qN1) (.seq (.cond (.leaf) (.leaf)) (.join [(0,qcP),(2,qcS),(3,qcI),(4,qcS),(13,qcS),(14,qcI),(15,qcI)] (fun s w=>kS_sum.j1 R k1 s.1 s.2.1 s.2.2.1 s.2.2.2.1 s.2.2.2.2.1 s.2.2.2.2.2.1 s.2.2.2.2.2.2.1 w) (.block (.seq (.reg (.op 0 .now (.op 1 qpA (.op 2 qrB (.op 3 .now (.op 4 .now (.done))))))) (.regD (.op 0 .now (.op 1 qpA (.op 2 .now (.op 3 .now (.op 4 (.rd (.one (.at .any))) (.op 5 .now (.op 6 .now (.op 7 .now (.op 8 .now (.op 9 qpA (.op 10 qrS (.op 11 .now (.op 12 .now (.op 13 .now (.op 14 .now (.op 15 .now (.op 16 (.pu (.one qcS)) (.op 17 (.nx (.one (.at .any))) (.op 18 .now (.op 19 (.nx (.one qcI)) (.done)))))))))))))))))))))))) (.reg qN2)))))))
theorem kS_sum.run(R:EPq)(v0:(Option Addr))(v1:Sl)(v2:Sl)(v3:Int)(v4:Sl)(w:World)(h:kS_sum.M R v0 v1 v2 v3 v4 w):Calls Tryz.prog 57 #[(.pointer v0),(.slice v1.base v1.len v1.cap),(.slice v2.base v2.len v2.cap),(.int .i64 v3),(.slice v4.base v4.len v4.cap)] w R:=by
 refine aaZ ayZ Tryz.func57 (c:=kS_sum.body) (by kernel_rfl) [] (kS_sum.ann R) 41 Tryz.ntmps57 [] (by kernel_rfl) (Nat.le_of_ble_eq_true (by kernel_rfl)) ?_ ?_
 ·exact⟨tv,⟨tv,(fun k1=>⟨fun s w=>mq,⟨tv,⟨⟨tv,tv⟩,⟨fun s w=>mq,⟨tv,(show Region.noSelect _=true by kernel_rfl)⟩,tv⟩⟩⟩⟩)⟩⟩
 ·exact Eq.mp (show kS_sum.M R v0 v1 v2 v3 v4 w=_ by kernel_rfl) h
noncomputable def kS_Dot.body:Code:=(Tryz.f62.body).getD .skip
def kS_Dot.b1(R:EPq)(k1:((Option Addr)×Sl×Sl×Sl×Sl×Int×Int×Unit)→WPq)(v0:(Option Addr))(v1:Sl)(v2:Sl)(v3:Sl)(t26:Sl)(t27:Int)(t28:Int)(w:World):Prop:=
 Cd (decide (t28<t27)) (Pu Tryz.prog (Instr.indexAt 30 (.slice t26.base t26.len t26.cap) (.int .i64 t28)) (.one (.at .addr)) (fun(x1:Addr) w2=>
 Rd Tryz.prog (Instr.loadAt 24 (.pointer (some x1))) (.one (.at .sl)) (fun(x3:Sl) w4=>
 Cd (((x3.len:Nat):Int) !=((v3.len:Nat):Int)) (R (.returned (.int .i64 6)) w4) (k1 (v0,v1,v2,v3,t26,t27,(IntKind.wrap .i64 (t28+1)),()) w4)) w2) w) (Cl Tryz.prog 57 #[(.pointer v0),(.slice v1.base v1.len v1.cap),(.slice v2.base v2.len v2.cap),(.int .i64 0),(.slice v3.base v3.len v3.cap)] (.tup []) (fun x5 w6=>
 R (.returned (.int .i64 0)) w6) w)
def kS_Dot.l1(R:EPq):((Option Addr)×Sl×Sl×Sl×Sl×Int×Int×Unit)→World→Prop:=arZ (fun k1 s w=>kS_Dot.b1 R k1 s.1 s.2.1 s.2.2.1 s.2.2.2.1 s.2.2.2.2.1 s.2.2.2.2.2.1 s.2.2.2.2.2.2.1 w)
def kS_Dot.j1(R:EPq)(v0:(Option Addr))(v1:Sl)(v2:Sl)(v3:Sl)(t20:Bool)(w:World):Prop:=
 Cd t20 (R (.returned (.int .i64 1)) w) (Cd (((v1.len:Nat):Int) !=((v2.len:Nat):Int)) (R (.returned (.int .i64 6)) w) (kS_Dot.l1 R (v0,v1,v2,v3,v2,((v2.len:Nat):Int),0,()) w))
def kS_Dot.M(R:EPq)(v0:(Option Addr))(v1:Sl)(v2:Sl)(v3:Sl)(w:World):Prop:=
 Pu Tryz.prog (do eqGuard .eql 75 (.tmp 11) (.const (.pointer none)) (.pointer v0) (.pointer none);binOp .eql 75 (.pointer v0) (.pointer none)) (.one (.at .bool)) (fun(x7:Bool) w8=>
 Cd x7 (kS_Dot.j1 R v0 v1 v2 v3 true w8) (Pu Tryz.prog (amZ v0) (.one (.at .addr)) (fun(x9:Addr) w10=>
 Rd Tryz.prog (Instr.loadAt 132 (.pointer (some x9))) (.one (.at .any)) (fun x11 w12=>
 Pu Tryz.prog (do eqGuard .eql 132 (.tmp 18) (.const .nilIface) x11 .nilIface;binOp .eql 132 x11 .nilIface) (.one (.at .bool)) (fun(x13:Bool) w14=>
 kS_Dot.j1 R v0 v1 v2 v3 x13 w14) w12) w10) w8)) w
noncomputable def kS_Dot.ann(R:EPq):Ann:=
 .seq (.reg qN1) (.seq (.join [(0,qcP),(1,qcS),(2,qcS),(3,qcS),(20,.at .bool)] (fun s w=>kS_Dot.j1 R s.1 s.2.1 s.2.2.1 s.2.2.2.1 s.2.2.2.2.1 w) (.reg (.op 0 .now (.op 1 (.pu (.one (.at .bool))) (.op 2 .now (.split 2 (.skip 3 (.skip 4 (.skip 5 (.skip 6 (.skip 7 (.skip 8 (.op 9 .now (.done)))))))) (.op 3 .now (.op 4 qpA (.op 5 .now (.op 6 .now (.op 7 (.rd (.one (.at .any))) (.op 8 (.pu (.one (.at .bool))) (.op 9 .now (.done))))))))))))) (.cond (.seq (.reg qN1) (.leaf)) (.leaf))) (.seq (.seq (.reg qN5) (.cond (.seq (.reg qN1) (.leaf)) (.leaf))) (.seq (.seq (.reg qN3) (.block (.loop [(0,qcP),(1,qcS),(2,qcS),(3,qcS),(26,qcS),(27,qcI),(28,qcI)] (fun k1 s w=>kS_Dot.b1 R k1 s.1 s.2.1 s.2.2.1 s.2.2.2.1 s.2.2.2.2.1 s.2.2.2.2.2.1 s.2.2.2.2.2.2.1 w) (fun k1=>.seq (.reg qN1) (.seq (.cond (.leaf) (.leaf)) (.seq (.block (.seq (.reg (.op 0 qpA (.op 1 qrS (.op 2 .now (.done))))) (.seq (.reg qN5) (.cond (.seq (.reg qN1) (.leaf)) (.leaf))))) (.reg qN2))))))) (.seq (.reg (.op 0 .now (.op 1 .now (.op 2 .now (.op 3 .now (.op 4 (.cl (.tup [])) (.done))))))) (.seq (.reg qN1) (.leaf))))))
theorem kS_Dot.run(R:EPq)(v0:(Option Addr))(v1:Sl)(v2:Sl)(v3:Sl)(w:World)(h:kS_Dot.M R v0 v1 v2 v3 w):Calls Tryz.prog 62 #[(.pointer v0),(.slice v1.base v1.len v1.cap),(.slice v2.base v2.len v2.cap),(.slice v3.base v3.len v3.cap)] w R:=by
 refine aaZ ayZ Tryz.func62 (c:=kS_Dot.body) (by kernel_rfl) [.at (.int .i64)] (kS_Dot.ann R) 43 Tryz.ntmps62 [.tmp 8] (by kernel_rfl) (Nat.le_of_ble_eq_true (by kernel_rfl)) ?_ ?_
 ·exact⟨tv,⟨⟨fun s w=>mq,tv,⟨⟨tv,tv⟩,tv⟩⟩,⟨⟨tv,⟨⟨tv,tv⟩,tv⟩⟩,⟨⟨tv,(fun k1=>⟨fun s w=>mq,⟨tv,⟨⟨tv,tv⟩,⟨⟨tv,⟨tv,⟨⟨tv,tv⟩,tv⟩⟩⟩,tv⟩⟩⟩⟩)⟩,⟨tv,⟨tv,tv⟩⟩⟩⟩⟩⟩
 ·exact Eq.mp (show kS_Dot.M R v0 v1 v2 v3 w=_ by kernel_rfl) h
noncomputable def kernel_within.body:Code:=(Tryz.f75.body).getD .skip
def kernel_within.j1(R:EPq)(t20:Bool)(w:World):Prop:=
 Cd t20 (R (.returned (.int .i64 7)) w) (R (.returned (.int .i64 0)) w)
def kernel_within.M(R:EPq)(v0:(Int×Int×Unit))(v1:Int)(w:World):Prop:=
 Wr Tryz.prog (Instr.box 41 (.agg #[(.int .i64 v0.1),(.int .i64 v0.2.1)])) (.one (.at .addr)) (fun(x1:Addr) w2=>
 Rd Tryz.prog (Instr.loadAt 3 (.pointer (some x1))) (.one (.at (.int .i64))) (fun(x3:Int) w4=>
 Cd (decide (x3<0)) (kernel_within.j1 R true w4) (Rd Tryz.prog (Instr.loadAt 3 (.pointer (some (Addr.add x1 1)))) (.one (.at (.int .i64))) (fun(x5:Int) w6=>
 Rd Tryz.prog (Instr.loadAt 3 (.pointer (some x1))) (.one (.at (.int .i64))) (fun(x7:Int) w8=>
 Cd (decide (x5<x7)) (kernel_within.j1 R true w8) (Rd Tryz.prog (Instr.loadAt 3 (.pointer (some (Addr.add x1 1)))) (.one (.at (.int .i64))) (fun(x9:Int) w10=>
 kernel_within.j1 R (decide (x9>v1)) w10) w8)) w6) w4)) w2) w
noncomputable def kernel_within.ann(R:EPq):Ann:=
 .seq (.reg (.op 0 (.wr (.one (.at .addr))) (.op 1 .now (.done)))) (.seq (.join [(20,.at .bool)] (fun s w=>kernel_within.j1 R s.1 w) (.reg (.op 0 .now (.op 1 (.rd (.one qcI)) (.op 2 .now (.op 3 .now (.split 3 (.skip 4 (.skip 5 (.skip 6 (.skip 7 (.skip 8 (.op 9 .now (.op 10 .now (.skip 11 (.skip 12 (.skip 13 (.skip 14 (.op 15 .now (.done))))))))))))) (.op 4 .now (.op 5 (.rd (.one qcI)) (.op 6 .now (.op 7 (.rd (.one qcI)) (.op 8 .now (.op 9 .now (.op 10 .now (.split 10 (.skip 11 (.skip 12 (.skip 13 (.skip 14 (.op 15 .now (.done)))))) (.op 11 .now (.op 12 (.rd (.one qcI)) (.op 13 .now (.op 14 .now (.op 15 .now (.done)))))))))))))))))))) (.cond (.seq (.reg qN1) (.leaf)) (.leaf))) (.seq (.reg qN1) (.leaf)))
theorem kernel_within.run(R:EPq)(v0:(Int×Int×Unit))(v1:Int)(w:World)(h:kernel_within.M R v0 v1 w):Calls Tryz.prog 75 #[(.agg #[(.int .i64 v0.1),(.int .i64 v0.2.1)]),(.int .i64 v1)] w R:=by
 refine aaZ ayZ Tryz.func75 (c:=kernel_within.body) (by kernel_rfl) [.at (.int .i64)] (kernel_within.ann R) 21 Tryz.ntmps75 [.tmp 4] (by kernel_rfl) (Nat.le_of_ble_eq_true (by kernel_rfl)) ?_ ?_
 ·exact⟨tv,⟨⟨fun s w=>mq,tv,⟨⟨tv,tv⟩,tv⟩⟩,⟨tv,tv⟩⟩⟩
 ·exact Eq.mp (show kernel_within.M R v0 v1 w=_ by kernel_rfl) h
noncomputable def mcode_New.body:Code:=(Tryz.f32.body).getD .skip
def mcode_New.j1(R:EPq)(v0:Int)(v1:Int)(v2:Int)(v3:Int)(t19:Bool)(w:World):Prop:=
 Cd t19 (R (.returned (.tuple #[(.pointer none),(.int .i64 2)])) w) (Cl Tryz.prog 51 #[(.int .i64 v1)] (.tup [.at .ptr,.at (.int .i64)]) (fun x1 w2=>
 Cd (x1.2.1 !=0) (R (.returned (.tuple #[(.pointer none),(.int .i64 3)])) w2) (Cl Tryz.prog 52 #[(.int .i64 v0),(.int .i64 v2),(.int .i64 v3)] (.tup [.at .sl,.at (.int .i64)]) (fun x3 w4=>
 Cd (x3.2.1 !=0) (R (.returned (.tuple #[(.pointer none),(.int .i64 4)])) w4) (Cl Tryz.prog 53 #[(.int .i64 16)] (.tup [.at .ptr,.at (.int .i64)]) (fun x5 w6=>
 Cd (x5.2.1 !=0) (R (.returned (.tuple #[(.pointer none),(.int .i64 x5.2.1)])) w6) (Wr Tryz.prog (Instr.box 78 (.agg #[(.int .i64 v0),(.int .i64 v2),(.int .i64 v3),(.pointer x1.1),(.slice x3.1.base x3.1.len x3.1.cap),(.pointer x5.1)])) (.one (.at .addr)) (fun(x7:Addr) w8=>
 R (.returned (.tuple #[(.pointer (some x7)),(.int .i64 0)])) w8) w6)) w4)) w2)) w)
def mcode_New.M(R:EPq)(v0:Int)(v1:Int)(v2:Int)(v3:Int)(w:World):Prop:=
 Cd (v0 !=0) (mcode_New.j1 R v0 v1 v2 v3 (v0 !=1) w) (mcode_New.j1 R v0 v1 v2 v3 false w)
noncomputable def mcode_New.ann(R:EPq):Ann:=
 .seq (.reg qN2) (.seq (.join [(0,qcI),(1,qcI),(2,qcI),(3,qcI),(19,.at .bool)] (fun s w=>mcode_New.j1 R s.1 s.2.1 s.2.2.1 s.2.2.2.1 s.2.2.2.2.1 w) (.reg (.op 0 .now (.op 1 .now (.op 2 .now (.split 2 (.op 3 .now (.op 4 .now (.op 5 .now (.done)))) (.skip 3 (.skip 4 (.op 5 .now (.done))))))))) (.cond (.seq (.reg qN2) (.leaf)) (.leaf))) (.seq (.reg (.op 0 .now (.op 1 (.cl (.tup [.at .ptr,.at (.int .i64)])) (.op 2 .now (.op 3 .now (.op 4 .now (.op 5 .now (.op 6 .now (.done))))))))) (.seq (.seq (.reg qN2) (.cond (.seq (.reg qN2) (.leaf)) (.leaf))) (.seq (.reg (.op 0 .now (.op 1 .now (.op 2 .now (.op 3 (.cl (.tup [.at .sl,.at (.int .i64)])) (.op 4 .now (.op 5 .now (.op 6 .now (.op 7 .now (.op 8 .now (.done))))))))))) (.seq (.seq (.reg qN2) (.cond (.seq (.reg qN2) (.leaf)) (.leaf))) (.seq (.reg (.op 0 (.cl (.tup [.at .ptr,.at (.int .i64)])) (.op 1 .now (.op 2 .now (.op 3 .now (.op 4 .now (.op 5 .now (.done)))))))) (.seq (.seq (.reg qN2) (.cond (.seq (.reg qN3) (.leaf)) (.leaf))) (.seq (.reg (.op 0 .now (.op 1 .now (.op 2 .now (.op 3 .now (.op 4 .now (.op 5 .now (.op 6 .now (.op 7 (.wr (.one (.at .addr))) (.op 8 .now (.op 9 .now (.done)))))))))))) (.leaf)))))))))
theorem mcode_New.run(R:EPq)(v0:Int)(v1:Int)(v2:Int)(v3:Int)(w:World)(h:mcode_New.M R v0 v1 v2 v3 w):Calls Tryz.prog 32 #[(.int .i64 v0),(.int .i64 v1),(.int .i64 v2),(.int .i64 v3)] w R:=by
 refine aaZ ayZ Tryz.func32 (c:=mcode_New.body) (by kernel_rfl) [.at .ptr,.at (.int .i64)] (mcode_New.ann R) 51 Tryz.ntmps32 [.tmp 8,.tmp 9] (by kernel_rfl) (Nat.le_of_ble_eq_true (by kernel_rfl)) ?_ ?_
 ·exact⟨tv,⟨⟨fun s w=>mq,tv,⟨⟨tv,tv⟩,tv⟩⟩,⟨tv,⟨⟨tv,⟨⟨tv,tv⟩,tv⟩⟩,⟨tv,⟨⟨tv,⟨⟨tv,tv⟩,tv⟩⟩,⟨tv,⟨⟨tv,⟨⟨tv,tv⟩,tv⟩⟩,⟨tv,tv⟩⟩⟩⟩⟩⟩⟩⟩⟩
 ·exact Eq.mp (show mcode_New.M R v0 v1 v2 v3 w=_ by kernel_rfl) h
noncomputable def mC_whole.body:Code:=(Tryz.f34.body).getD .skip
def mC_whole.M(R:EPq)(v0:(Option Addr))(v1:Sl)(w:World):Prop:=
 Pu Tryz.prog (do eqGuard .eql 26 (.tmp 6) (.const (.pointer none)) (.pointer v0) (.pointer none);binOp .eql 26 (.pointer v0) (.pointer none)) (.one (.at .bool)) (fun(x1:Bool) w2=>
 Cd x1 (R (.returned (.tuple #[(.int .i64 0),(.int .i64 1)])) w2) (Held w2.drew (fun S3=>Pu Tryz.prog (amZ v0) (.one (.at .addr)) (fun(x4:Addr) w5=>
 RdS Tryz.prog S3 (Instr.loadAt 69 (.pointer (some x4))) (.one (.at (.int .i64))) (fun(x6:Int) w7=>
 Pu Tryz.prog (amZ v0) (.one (.at .addr)) (fun(x8:Addr) w9=>
 RdS Tryz.prog S3 (Instr.loadAt 3 (.pointer (some (Addr.add x8 1)))) (.one (.at (.int .i64))) (fun(x10:Int) w11=>
 Pu Tryz.prog (amZ v0) (.one (.at .addr)) (fun(x12:Addr) w13=>
 RdS Tryz.prog S3 (Instr.loadAt 3 (.pointer (some (Addr.add x12 2)))) (.one (.at (.int .i64))) (fun(x14:Int) w15=>
 Cl Tryz.prog 55 #[(.int .i64 x6),(.int .i64 x10),(.int .i64 x14),(.slice v1.base v1.len v1.cap)] (.tup [.at (.int .i64),.at (.int .i64)]) (fun x16 w17=>
 S3 w17∧(R (.returned (.tuple #[(.int .i64 x16.1),(.int .i64 x16.2.1)])) w17)) w15) w13) w11) w9) w7) w5) w2.drew))) w
noncomputable def mC_whole.ann(R:EPq):Ann:=
 .seq (.reg qN2) (.seq (.seq (.reg (.op 0 .now (.op 1 (.pu (.one (.at .bool))) (.done)))) (.cond (.seq (.reg qN2) (.leaf)) (.leaf))) (.seq (.regD (.op 0 .now (.op 1 qpA (.op 2 .now (.op 3 (.rd (.one qcI)) (.op 4 .now (.op 5 qpA (.op 6 .now (.op 7 (.rd (.one qcI)) (.op 8 .now (.op 9 qpA (.op 10 .now (.op 11 (.rd (.one qcI)) (.op 12 .now (.op 13 (.cl (.tup [.at (.int .i64),.at (.int .i64)])) (.op 14 .now (.op 15 .now (.op 16 .now (.op 17 .now (.done)))))))))))))))))))) (.leaf)))
theorem mC_whole.run(R:EPq)(v0:(Option Addr))(v1:Sl)(w:World)(h:mC_whole.M R v0 v1 w):Calls Tryz.prog 34 #[(.pointer v0),(.slice v1.base v1.len v1.cap)] w R:=by
 refine aaZ ayZ Tryz.func34 (c:=mC_whole.body) (by kernel_rfl) [.at (.int .i64),.at (.int .i64)] (mC_whole.ann R) 24 Tryz.ntmps34 [.tmp 4,.tmp 5] (by kernel_rfl) (Nat.le_of_ble_eq_true (by kernel_rfl)) ?_ ?_
 ·exact⟨tv,⟨⟨tv,⟨⟨tv,tv⟩,tv⟩⟩,⟨(show Region.noSelect _=true by kernel_rfl),tv⟩⟩⟩
 ·exact Eq.mp (show mC_whole.M R v0 v1 w=_ by kernel_rfl) h
noncomputable def mcode_within.body:Code:=(Tryz.f35.body).getD .skip
def mcode_within.j1(R:EPq)(t20:Bool)(w:World):Prop:=
 Cd t20 (R (.returned (.int .i64 7)) w) (R (.returned (.int .i64 0)) w)
def mcode_within.M(R:EPq)(v0:(Int×Int×Unit))(v1:Int)(w:World):Prop:=
 Wr Tryz.prog (Instr.box 41 (.agg #[(.int .i64 v0.1),(.int .i64 v0.2.1)])) (.one (.at .addr)) (fun(x1:Addr) w2=>
 Rd Tryz.prog (Instr.loadAt 3 (.pointer (some x1))) (.one (.at (.int .i64))) (fun(x3:Int) w4=>
 Cd (decide (x3<0)) (mcode_within.j1 R true w4) (Rd Tryz.prog (Instr.loadAt 3 (.pointer (some (Addr.add x1 1)))) (.one (.at (.int .i64))) (fun(x5:Int) w6=>
 Rd Tryz.prog (Instr.loadAt 3 (.pointer (some x1))) (.one (.at (.int .i64))) (fun(x7:Int) w8=>
 Cd (decide (x5<x7)) (mcode_within.j1 R true w8) (Rd Tryz.prog (Instr.loadAt 3 (.pointer (some (Addr.add x1 1)))) (.one (.at (.int .i64))) (fun(x9:Int) w10=>
 mcode_within.j1 R (decide (x9>v1)) w10) w8)) w6) w4)) w2) w
noncomputable def mcode_within.ann(R:EPq):Ann:=
 .seq (.reg (.op 0 (.wr (.one (.at .addr))) (.op 1 .now (.done)))) (.seq (.join [(20,.at .bool)] (fun s w=>mcode_within.j1 R s.1 w) (.reg (.op 0 .now (.op 1 (.rd (.one qcI)) (.op 2 .now (.op 3 .now (.split 3 (.skip 4 (.skip 5 (.skip 6 (.skip 7 (.skip 8 (.op 9 .now (.op 10 .now (.skip 11 (.skip 12 (.skip 13 (.skip 14 (.op 15 .now (.done))))))))))))) (.op 4 .now (.op 5 (.rd (.one qcI)) (.op 6 .now (.op 7 (.rd (.one qcI)) (.op 8 .now (.op 9 .now (.op 10 .now (.split 10 (.skip 11 (.skip 12 (.skip 13 (.skip 14 (.op 15 .now (.done)))))) (.op 11 .now (.op 12 (.rd (.one qcI)) (.op 13 .now (.op 14 .now (.op 15 .now (.done)))))))))))))))))))) (.cond (.seq (.reg qN1) (.leaf)) (.leaf))) (.seq (.reg qN1) (.leaf)))
theorem mcode_within.run(R:EPq)(v0:(Int×Int×Unit))(v1:Int)(w:World)(h:mcode_within.M R v0 v1 w):Calls Tryz.prog 35 #[(.agg #[(.int .i64 v0.1),(.int .i64 v0.2.1)]),(.int .i64 v1)] w R:=by
 refine aaZ ayZ Tryz.func35 (c:=mcode_within.body) (by kernel_rfl) [.at (.int .i64)] (mcode_within.ann R) 21 Tryz.ntmps35 [.tmp 4] (by kernel_rfl) (Nat.le_of_ble_eq_true (by kernel_rfl)) ?_ ?_
 ·exact⟨tv,⟨⟨fun s w=>mq,tv,⟨⟨tv,tv⟩,tv⟩⟩,⟨tv,tv⟩⟩⟩
 ·exact Eq.mp (show mcode_within.M R v0 v1 w=_ by kernel_rfl) h
noncomputable def mC_Encode.body:Code:=(Tryz.f13.body).getD .skip
def mC_Encode.M(R:EPq)(v0:(Option Addr))(v1:Sl)(w:World):Prop:=
 Cl Tryz.prog 34 #[(.pointer v0),(.slice v1.base v1.len v1.cap)] (.tup [.at (.int .i64),.at (.int .i64)]) (fun x1 w2=>
 Cd (x1.2.1 !=0) (R (.returned (.int .i64 x1.2.1)) w2) (Cl Tryz.prog 28 #[(.pointer v0),(.slice v1.base v1.len v1.cap),(.agg #[(.int .i64 0),(.int .i64 x1.1)])] (.one (.at (.int .i64))) (fun(x3:Int) w4=>
 R (.returned (.int .i64 x3)) w4) w2)) w
noncomputable def mC_Encode.ann(R:EPq):Ann:=
 .seq (.reg qN1) (.seq (.reg (.op 0 .now (.op 1 .now (.op 2 (.cl (.tup [.at (.int .i64),.at (.int .i64)])) (.op 3 .now (.op 4 .now (.op 5 .now (.op 6 .now (.op 7 .now (.done)))))))))) (.seq (.seq (.reg qN2) (.cond (.seq (.reg qN2) (.leaf)) (.leaf))) (.seq (.reg (.op 0 .now (.op 1 .now (.op 2 .now (.op 3 .now (.op 4 (.cl (.one qcI)) (.op 5 .now (.done)))))))) (.leaf))))
theorem mC_Encode.run(R:EPq)(v0:(Option Addr))(v1:Sl)(w:World)(h:mC_Encode.M R v0 v1 w):Calls Tryz.prog 13 #[(.pointer v0),(.slice v1.base v1.len v1.cap)] w R:=by
 refine aaZ ayZ Tryz.func13 (c:=mC_Encode.body) (by kernel_rfl) [.at (.int .i64)] (mC_Encode.ann R) 21 Tryz.ntmps13 [.tmp 4] (by kernel_rfl) (Nat.le_of_ble_eq_true (by kernel_rfl)) ?_ ?_
 ·exact⟨tv,⟨tv,⟨⟨tv,⟨⟨tv,tv⟩,tv⟩⟩,⟨tv,tv⟩⟩⟩⟩
 ·exact Eq.mp (show mC_Encode.M R v0 v1 w=_ by kernel_rfl) h
noncomputable def mC_Verify.body:Code:=(Tryz.f14.body).getD .skip
def mC_Verify.M(R:EPq)(v0:(Option Addr))(v1:Sl)(w:World):Prop:=
 Cl Tryz.prog 34 #[(.pointer v0),(.slice v1.base v1.len v1.cap)] (.tup [.at (.int .i64),.at (.int .i64)]) (fun x1 w2=>
 Cd (x1.2.1 !=0) (R (.returned (.tuple #[(.bool false),(.int .i64 x1.2.1)])) w2) (Cl Tryz.prog 17 #[(.pointer v0),(.slice v1.base v1.len v1.cap),(.agg #[(.int .i64 0),(.int .i64 x1.1)])] (.tup [.at .bool,.at (.int .i64)]) (fun x3 w4=>
 R (.returned (.tuple #[(.bool x3.1),(.int .i64 x3.2.1)])) w4) w2)) w
noncomputable def mC_Verify.ann(R:EPq):Ann:=
 .seq (.reg qN2) (.seq (.reg (.op 0 .now (.op 1 .now (.op 2 (.cl (.tup [.at (.int .i64),.at (.int .i64)])) (.op 3 .now (.op 4 .now (.op 5 .now (.op 6 .now (.op 7 .now (.done)))))))))) (.seq (.seq (.reg qN2) (.cond (.seq (.reg qN3) (.leaf)) (.leaf))) (.seq (.reg (.op 0 .now (.op 1 .now (.op 2 .now (.op 3 .now (.op 4 (.cl (.tup [.at .bool,.at (.int .i64)])) (.op 5 .now (.op 6 .now (.op 7 .now (.op 8 .now (.done))))))))))) (.leaf))))
theorem mC_Verify.run(R:EPq)(v0:(Option Addr))(v1:Sl)(w:World)(h:mC_Verify.M R v0 v1 w):Calls Tryz.prog 14 #[(.pointer v0),(.slice v1.base v1.len v1.cap)] w R:=by
 refine aaZ ayZ Tryz.func14 (c:=mC_Verify.body) (by kernel_rfl) [.at .bool,.at (.int .i64)] (mC_Verify.ann R) 24 Tryz.ntmps14 [.tmp 4,.tmp 5] (by kernel_rfl) (Nat.le_of_ble_eq_true (by kernel_rfl)) ?_ ?_
 ·exact⟨tv,⟨tv,⟨⟨tv,⟨⟨tv,tv⟩,tv⟩⟩,⟨tv,tv⟩⟩⟩⟩
 ·exact Eq.mp (show mC_Verify.M R v0 v1 w=_ by kernel_rfl) h
noncomputable def mC_VerifySpan.body:Code:=(Tryz.f17.body).getD .skip
def mC_VerifySpan.j1(R:EPq)(v0:(Option Addr))(v1:Sl)(v5:Addr)(v9:Int)(w:World):Prop:=
 Cd (v9 !=0) (R (.returned (.tuple #[(.bool false),(.int .i64 v9)])) w) (Held w.drew (fun S5=>Pu Tryz.prog (amZ v0) (.one (.at .addr)) (fun(x6:Addr) w7=>
 RdS Tryz.prog S5 (Instr.loadAt 75 (.pointer (some (Addr.add x6 3)))) (.one (.at .ptr)) (fun(x8:(Option Addr)) w9=>
 Pu Tryz.prog (amZ v0) (.one (.at .addr)) (fun(x10:Addr) w11=>
 RdS Tryz.prog S5 (Instr.loadAt 30 (.pointer (some (Addr.add x10 4)))) (.one (.at .sl)) (fun(x12:Sl) w13=>
 Pu Tryz.prog (amZ v0) (.one (.at .addr)) (fun(x14:Addr) w15=>
 RdS Tryz.prog S5 (Instr.loadAt 3 (.pointer (some (Addr.add x14 1)))) (.one (.at (.int .i64))) (fun(x16:Int) w17=>
 Pu Tryz.prog (Instr.sliceAt 30 (.slice v1.base v1.len v1.cap) none (some (.int .i64 x16)) none) (.one (.at .sl)) (fun(x18:Sl) w19=>
 Pu Tryz.prog (amZ v0) (.one (.at .addr)) (fun(x20:Addr) w21=>
 RdS Tryz.prog S5 (Instr.loadAt 3 (.pointer (some (Addr.add x20 1)))) (.one (.at (.int .i64))) (fun(x22:Int) w23=>
 Pu Tryz.prog (Instr.sliceAt 30 (.slice v1.base v1.len v1.cap) (some (.int .i64 x22)) none none) (.one (.at .sl)) (fun(x24:Sl) w25=>
 RdS Tryz.prog S5 (Instr.loadAt 41 (.pointer (some v5))) (.one (.agg [.int .i64,.int .i64])) (fun x26 w27=>
 Cl Tryz.prog 36 #[(.pointer x8),(.slice x12.base x12.len x12.cap),(.slice x18.base x18.len x18.cap),(.slice x24.base x24.len x24.cap),(.agg #[(.int .i64 x26.1),(.int .i64 x26.2.1)])] (.tup [.at .bool,.at (.int .i64)]) (fun x28 w29=>
 S5 w29∧(R (.returned (.tuple #[(.bool x28.1),(.int .i64 x28.2.1)])) w29)) w27) w25) w23) w21) w19) w17) w15) w13) w11) w9) w7) w.drew))
def mC_VerifySpan.M(R:EPq)(v0:(Option Addr))(v1:Sl)(v2:(Int×Int×Unit))(w:World):Prop:=
 Wr Tryz.prog (Instr.box 41 (.agg #[(.int .i64 v2.1),(.int .i64 v2.2.1)])) (.one (.at .addr)) (fun(x1:Addr) w2=>
 Cl Tryz.prog 34 #[(.pointer v0),(.slice v1.base v1.len v1.cap)] (.tup [.at (.int .i64),.at (.int .i64)]) (fun x3 w4=>
 Cd (x3.2.1==0) (Rd Tryz.prog (Instr.loadAt 41 (.pointer (some x1))) (.one (.agg [.int .i64,.int .i64])) (fun x30 w31=>
 Cl Tryz.prog 35 #[(.agg #[(.int .i64 x30.1),(.int .i64 x30.2.1)]),(.int .i64 x3.1)] (.one (.at (.int .i64))) (fun(x32:Int) w33=>
 mC_VerifySpan.j1 R v0 v1 x1 x32 w33) w31) w4) (mC_VerifySpan.j1 R v0 v1 x1 x3.2.1 w4)) w2) w
noncomputable def mC_VerifySpan.ann(R:EPq):Ann:=
 .seq (.reg (.op 0 (.wr (.one (.at .addr))) (.op 1 .now (.op 2 .now (.done))))) (.seq (.reg (.op 0 .now (.op 1 .now (.op 2 (.cl (.tup [.at (.int .i64),.at (.int .i64)])) (.op 3 .now (.op 4 .now (.op 5 .now (.op 6 .now (.op 7 .now (.done)))))))))) (.join [(0,qcP),(1,qcS),(5,.at .addr),(9,qcI)] (fun s w=>mC_VerifySpan.j1 R s.1 s.2.1 s.2.2.1 s.2.2.2.1 w) (.seq (.reg qN2) (.cond (.reg (.op 0 (.rd (.one (.agg [.int .i64,.int .i64]))) (.op 1 .now (.op 2 (.cl (.one qcI)) (.op 3 .now (.done)))))) (.leaf))) (.seq (.seq (.reg qN2) (.cond (.seq (.reg qN3) (.leaf)) (.leaf))) (.seq (.regD (.op 0 .now (.op 1 qpA (.op 2 .now (.op 3 (.rd (.one qcP)) (.op 4 .now (.op 5 qpA (.op 6 .now (.op 7 qrS (.op 8 .now (.op 9 .now (.op 10 qpA (.op 11 .now (.op 12 (.rd (.one qcI)) (.op 13 (.pu (.one qcS)) (.op 14 .now (.op 15 .now (.op 16 qpA (.op 17 .now (.op 18 (.rd (.one qcI)) (.op 19 (.pu (.one qcS)) (.op 20 (.rd (.one (.agg [.int .i64,.int .i64]))) (.op 21 (.cl (.tup [.at .bool,.at (.int .i64)])) (.op 22 .now (.op 23 .now (.op 24 .now (.op 25 .now (.done)))))))))))))))))))))))))))) (.leaf)))))
theorem mC_VerifySpan.run(R:EPq)(v0:(Option Addr))(v1:Sl)(v2:(Int×Int×Unit))(w:World)(h:mC_VerifySpan.M R v0 v1 v2 w):Calls Tryz.prog 17 #[(.pointer v0),(.slice v1.base v1.len v1.cap),(.agg #[(.int .i64 v2.1),(.int .i64 v2.2.1)])] w R:=by
 refine aaZ ayZ Tryz.func17 (c:=mC_VerifySpan.body) (by kernel_rfl) [.at .bool,.at (.int .i64)] (mC_VerifySpan.ann R) 48 Tryz.ntmps17 [.tmp 6,.tmp 7] (by kernel_rfl) (Nat.le_of_ble_eq_true (by kernel_rfl)) ?_ ?_
 ·exact⟨tv,⟨tv,⟨fun s w=>mq,⟨tv,⟨tv,tv⟩⟩,⟨⟨tv,⟨⟨tv,tv⟩,tv⟩⟩,⟨(show Region.noSelect _=true by kernel_rfl),tv⟩⟩⟩⟩⟩
 ·exact Eq.mp (show mC_VerifySpan.M R v0 v1 v2 w=_ by kernel_rfl) h
noncomputable def mC_Update.body:Code:=(Tryz.f19.body).getD .skip
def mC_Update.M(R:EPq)(v0:(Option Addr))(v1:Sl)(v2:Sl)(w:World):Prop:=
 Pu Tryz.prog (do eqGuard .eql 26 (.tmp 10) (.const (.pointer none)) (.pointer v0) (.pointer none);binOp .eql 26 (.pointer v0) (.pointer none)) (.one (.at .bool)) (fun(x1:Bool) w2=>
 Cd x1 (R (.returned (.int .i64 1)) w2) (Held w2.drew (fun S3=>Pu Tryz.prog (amZ v0) (.one (.at .addr)) (fun(x4:Addr) w5=>
 RdS Tryz.prog S3 (Instr.loadAt 69 (.pointer (some x4))) (.one (.at (.int .i64))) (fun(x6:Int) w7=>
 Pu Tryz.prog (amZ v0) (.one (.at .addr)) (fun(x8:Addr) w9=>
 RdS Tryz.prog S3 (Instr.loadAt 3 (.pointer (some (Addr.add x8 1)))) (.one (.at (.int .i64))) (fun(x10:Int) w11=>
 Pu Tryz.prog (amZ v0) (.one (.at .addr)) (fun(x12:Addr) w13=>
 RdS Tryz.prog S3 (Instr.loadAt 3 (.pointer (some (Addr.add x12 2)))) (.one (.at (.int .i64))) (fun(x14:Int) w15=>
 Cl Tryz.prog 37 #[(.int .i64 x6),(.int .i64 x10),(.int .i64 x14),(.slice v1.base v1.len v1.cap),(.slice v2.base v2.len v2.cap)] (.tup [.at (.int .i64),.at .sl,.at (.int .i64)]) (fun x16 w17=>
 S3 w17∧(Cd (x16.2.2.1 !=0) (R (.returned (.int .i64 x16.2.2.1)) w17) (Cl Tryz.prog 29 #[(.pointer v0),(.slice v1.base v1.len v1.cap),(.slice v2.base v2.len v2.cap),(.agg #[(.int .i64 0),(.int .i64 x16.1)])] (.one (.at (.int .i64))) (fun(x18:Int) w19=>
 R (.returned (.int .i64 x18)) w19) w17))) w15) w13) w11) w9) w7) w5) w2.drew))) w
noncomputable def mC_Update.ann(R:EPq):Ann:=
 .seq (.reg qN1) (.seq (.seq (.reg (.op 0 .now (.op 1 (.pu (.one (.at .bool))) (.done)))) (.cond (.seq (.reg qN1) (.leaf)) (.leaf))) (.seq (.regD (.op 0 .now (.op 1 qpA (.op 2 .now (.op 3 (.rd (.one qcI)) (.op 4 .now (.op 5 qpA (.op 6 .now (.op 7 (.rd (.one qcI)) (.op 8 .now (.op 9 qpA (.op 10 .now (.op 11 (.rd (.one qcI)) (.op 12 .now (.op 13 .now (.op 14 (.cl (.tup [.at (.int .i64),.at .sl,.at (.int .i64)])) (.op 15 .now (.op 16 .now (.op 17 .now (.op 18 .now (.op 19 .now (.op 20 .now (.op 21 .now (.done)))))))))))))))))))))))) (.seq (.seq (.reg qN2) (.cond (.seq (.reg qN2) (.leaf)) (.leaf))) (.seq (.reg (.op 0 .now (.op 1 .now (.op 2 .now (.op 3 .now (.op 4 .now (.op 5 (.cl (.one qcI)) (.op 6 .now (.done))))))))) (.leaf)))))
theorem mC_Update.run(R:EPq)(v0:(Option Addr))(v1:Sl)(v2:Sl)(w:World)(h:mC_Update.M R v0 v1 v2 w):Calls Tryz.prog 19 #[(.pointer v0),(.slice v1.base v1.len v1.cap),(.slice v2.base v2.len v2.cap)] w R:=by
 refine aaZ ayZ Tryz.func19 (c:=mC_Update.body) (by kernel_rfl) [.at (.int .i64)] (mC_Update.ann R) 40 Tryz.ntmps19 [.tmp 6] (by kernel_rfl) (Nat.le_of_ble_eq_true (by kernel_rfl)) ?_ ?_
 ·exact⟨tv,⟨⟨tv,⟨⟨tv,tv⟩,tv⟩⟩,⟨(show Region.noSelect _=true by kernel_rfl),⟨⟨tv,⟨⟨tv,tv⟩,tv⟩⟩,⟨tv,tv⟩⟩⟩⟩⟩
 ·exact Eq.mp (show mC_Update.M R v0 v1 v2 w=_ by kernel_rfl) h
noncomputable def mC_Reconstruct.body:Code:=(Tryz.f21.body).getD .skip
def mC_Reconstruct.M(R:EPq)(v0:(Option Addr))(v1:Sl)(w:World):Prop:=
 Cl Tryz.prog 39 #[(.pointer v0),(.slice v1.base v1.len v1.cap),(.bool false)] (.one (.at (.int .i64))) (fun(x1:Int) w2=>
 R (.returned (.int .i64 x1)) w2) w
noncomputable def mC_Reconstruct.ann(R:EPq):Ann:=
 .seq (.reg qN1) (.seq (.reg (.op 0 .now (.op 1 .now (.op 2 (.cl (.one qcI)) (.op 3 .now (.done)))))) (.leaf))
theorem mC_Reconstruct.run(R:EPq)(v0:(Option Addr))(v1:Sl)(w:World)(h:mC_Reconstruct.M R v0 v1 w):Calls Tryz.prog 21 #[(.pointer v0),(.slice v1.base v1.len v1.cap)] w R:=by
 refine aaZ ayZ Tryz.func21 (c:=mC_Reconstruct.body) (by kernel_rfl) [.at (.int .i64)] (mC_Reconstruct.ann R) 8 Tryz.ntmps21 [.tmp 4] (by kernel_rfl) (Nat.le_of_ble_eq_true (by kernel_rfl)) ?_ ?_
 ·exact⟨tv,⟨tv,tv⟩⟩
 ·exact Eq.mp (show mC_Reconstruct.M R v0 v1 w=_ by kernel_rfl) h
noncomputable def mC_Plan.body:Code:=(Tryz.f22.body).getD .skip
def mC_Plan.j2(R:EPq)(v0:(Option Addr))(v1:Sl)(t4:Addr)(v6:Sl)(v8:Addr)(w:World):Prop:=
 Cd (((v1.len:Nat):Int)==0) (Rd Tryz.prog (Instr.loadAt 49 (.pointer (some v8))) (.one (.agg [.sl,.sl,.sl,.sl])) (fun x19 w20=>
 Wu Tryz.prog (Instr.storeAt 49 (.pointer (some t4)) (.agg #[(.slice x19.1.base x19.1.len x19.1.cap),(.slice x19.2.1.base x19.2.1.len x19.2.1.cap),(.slice x19.2.2.1.base x19.2.2.1.len x19.2.2.1.cap),(.slice x19.2.2.2.1.base x19.2.2.2.1.len x19.2.2.2.1.cap)])) (fun w21=>
 ∃r22:(Sl×Sl×Sl×Sl×Unit),(loadVar 49 t4).run Tryz.prog w21=.ok (.agg #[(.slice r22.1.base r22.1.len r22.1.cap),(.slice r22.2.1.base r22.2.1.len r22.2.1.cap),(.slice r22.2.2.1.base r22.2.2.1.len r22.2.2.1.cap),(.slice r22.2.2.2.1.base r22.2.2.2.1.len r22.2.2.2.1.cap)]) w21∧R (.returned (.tuple #[(.agg #[(.slice r22.1.base r22.1.len r22.1.cap),(.slice r22.2.1.base r22.2.1.len r22.2.1.cap),(.slice r22.2.2.1.base r22.2.2.1.len r22.2.2.1.cap),(.slice r22.2.2.2.1.base r22.2.2.2.1.len r22.2.2.2.1.cap)]),(.int .i64 0)])) w21) w20) w) (Pu Tryz.prog (amZ v0) (.one (.at .addr)) (fun(x23:Addr) w24=>
 Rd Tryz.prog (Instr.loadAt 76 (.pointer (some (Addr.add x23 5)))) (.one (.at .ptr)) (fun(x25:(Option Addr)) w26=>
 Cl Tryz.prog 42 #[(.pointer x25),(.slice v1.base v1.len v1.cap)] (.tup [.at .sl,.at .bool]) (fun x27 w28=>
 Cd x27.2.1 (Wu Tryz.prog (Instr.storeAt 30 (.pointer (some (Addr.add v8 2))) (.slice x27.1.base x27.1.len x27.1.cap)) (fun w29=>
 Rd Tryz.prog (Instr.loadAt 49 (.pointer (some v8))) (.one (.agg [.sl,.sl,.sl,.sl])) (fun x30 w31=>
 Wu Tryz.prog (Instr.storeAt 49 (.pointer (some t4)) (.agg #[(.slice x30.1.base x30.1.len x30.1.cap),(.slice x30.2.1.base x30.2.1.len x30.2.1.cap),(.slice x30.2.2.1.base x30.2.2.1.len x30.2.2.1.cap),(.slice x30.2.2.2.1.base x30.2.2.2.1.len x30.2.2.2.1.cap)])) (fun w32=>
 ∃r33:(Sl×Sl×Sl×Sl×Unit),(loadVar 49 t4).run Tryz.prog w32=.ok (.agg #[(.slice r33.1.base r33.1.len r33.1.cap),(.slice r33.2.1.base r33.2.1.len r33.2.1.cap),(.slice r33.2.2.1.base r33.2.2.1.len r33.2.2.1.cap),(.slice r33.2.2.2.1.base r33.2.2.2.1.len r33.2.2.2.1.cap)]) w32∧R (.returned (.tuple #[(.agg #[(.slice r33.1.base r33.1.len r33.1.cap),(.slice r33.2.1.base r33.2.1.len r33.2.1.cap),(.slice r33.2.2.1.base r33.2.2.1.len r33.2.2.1.cap),(.slice r33.2.2.2.1.base r33.2.2.2.1.len r33.2.2.2.1.cap)]),(.int .i64 0)])) w32) w31) w29) w28) (Held w28.drew (fun S34=>Pu Tryz.prog (amZ v0) (.one (.at .addr)) (fun(x35:Addr) w36=>
 RdS Tryz.prog S34 (Instr.loadAt 69 (.pointer (some x35))) (.one (.at (.int .i64))) (fun(x37:Int) w38=>
 Pu Tryz.prog (amZ v0) (.one (.at .addr)) (fun(x39:Addr) w40=>
 RdS Tryz.prog S34 (Instr.loadAt 3 (.pointer (some (Addr.add x39 1)))) (.one (.at (.int .i64))) (fun(x41:Int) w42=>
 Pu Tryz.prog (amZ v0) (.one (.at .addr)) (fun(x43:Addr) w44=>
 RdS Tryz.prog S34 (Instr.loadAt 3 (.pointer (some (Addr.add x43 2)))) (.one (.at (.int .i64))) (fun(x45:Int) w46=>
 Cl Tryz.prog 43 #[(.int .i64 x37),(.int .i64 x41),(.int .i64 x45),(.slice v6.base v6.len v6.cap),(.slice v1.base v1.len v1.cap)] (.tup [.at .sl,.at (.int .i64)]) (fun x47 w48=>
 S34 w48∧(Cd (x47.2.1 !=0) (Wu Tryz.prog (Instr.storeAt 49 (.pointer (some t4)) (.agg #[(.slice none 0 0),(.slice none 0 0),(.slice none 0 0),(.slice none 0 0)])) (fun w49=>
 ∃r50:(Sl×Sl×Sl×Sl×Unit),(loadVar 49 t4).run Tryz.prog w49=.ok (.agg #[(.slice r50.1.base r50.1.len r50.1.cap),(.slice r50.2.1.base r50.2.1.len r50.2.1.cap),(.slice r50.2.2.1.base r50.2.2.1.len r50.2.2.1.cap),(.slice r50.2.2.2.1.base r50.2.2.2.1.len r50.2.2.2.1.cap)]) w49∧R (.returned (.tuple #[(.agg #[(.slice r50.1.base r50.1.len r50.1.cap),(.slice r50.2.1.base r50.2.1.len r50.2.1.cap),(.slice r50.2.2.1.base r50.2.2.1.len r50.2.2.1.cap),(.slice r50.2.2.2.1.base r50.2.2.2.1.len r50.2.2.2.1.cap)]),(.int .i64 x47.2.1)])) w49) w48) (Pu Tryz.prog (amZ v0) (.one (.at .addr)) (fun(x51:Addr) w52=>
 Rd Tryz.prog (Instr.loadAt 76 (.pointer (some (Addr.add x51 5)))) (.one (.at .ptr)) (fun(x53:(Option Addr)) w54=>
 Cl Tryz.prog 44 #[(.pointer x53),(.slice v1.base v1.len v1.cap),(.slice x47.1.base x47.1.len x47.1.cap)] (.one (.at (.int .i64))) (fun(x55:Int) w56=>
 Cd (x55 !=0) (Wu Tryz.prog (Instr.storeAt 49 (.pointer (some t4)) (.agg #[(.slice none 0 0),(.slice none 0 0),(.slice none 0 0),(.slice none 0 0)])) (fun w57=>
 ∃r58:(Sl×Sl×Sl×Sl×Unit),(loadVar 49 t4).run Tryz.prog w57=.ok (.agg #[(.slice r58.1.base r58.1.len r58.1.cap),(.slice r58.2.1.base r58.2.1.len r58.2.1.cap),(.slice r58.2.2.1.base r58.2.2.1.len r58.2.2.1.cap),(.slice r58.2.2.2.1.base r58.2.2.2.1.len r58.2.2.2.1.cap)]) w57∧R (.returned (.tuple #[(.agg #[(.slice r58.1.base r58.1.len r58.1.cap),(.slice r58.2.1.base r58.2.1.len r58.2.1.cap),(.slice r58.2.2.1.base r58.2.2.1.len r58.2.2.1.cap),(.slice r58.2.2.2.1.base r58.2.2.2.1.len r58.2.2.2.1.cap)]),(.int .i64 x55)])) w57) w56) (Wu Tryz.prog (Instr.storeAt 30 (.pointer (some (Addr.add v8 2))) (.slice x47.1.base x47.1.len x47.1.cap)) (fun w59=>
 Rd Tryz.prog (Instr.loadAt 49 (.pointer (some v8))) (.one (.agg [.sl,.sl,.sl,.sl])) (fun x60 w61=>
 Wu Tryz.prog (Instr.storeAt 49 (.pointer (some t4)) (.agg #[(.slice x60.1.base x60.1.len x60.1.cap),(.slice x60.2.1.base x60.2.1.len x60.2.1.cap),(.slice x60.2.2.1.base x60.2.2.1.len x60.2.2.1.cap),(.slice x60.2.2.2.1.base x60.2.2.2.1.len x60.2.2.2.1.cap)])) (fun w62=>
 ∃r63:(Sl×Sl×Sl×Sl×Unit),(loadVar 49 t4).run Tryz.prog w62=.ok (.agg #[(.slice r63.1.base r63.1.len r63.1.cap),(.slice r63.2.1.base r63.2.1.len r63.2.1.cap),(.slice r63.2.2.1.base r63.2.2.1.len r63.2.2.1.cap),(.slice r63.2.2.2.1.base r63.2.2.2.1.len r63.2.2.2.1.cap)]) w62∧R (.returned (.tuple #[(.agg #[(.slice r63.1.base r63.1.len r63.1.cap),(.slice r63.2.1.base r63.2.1.len r63.2.1.cap),(.slice r63.2.2.1.base r63.2.2.1.len r63.2.2.1.cap),(.slice r63.2.2.2.1.base r63.2.2.2.1.len r63.2.2.2.1.cap)]),(.int .i64 0)])) w62) w61) w59) w56)) w54) w52) w48))) w46) w44) w42) w40) w38) w36) w28.drew))) w26) w24) w)
def mC_Plan.j1(R:EPq)(v0:(Option Addr))(v1:Sl)(t4:Addr)(v6:Sl)(v7:Int)(w:World):Prop:=
 Cd (v7 !=0) (Wu Tryz.prog (Instr.storeAt 49 (.pointer (some t4)) (.agg #[(.slice none 0 0),(.slice none 0 0),(.slice none 0 0),(.slice none 0 0)])) (fun w17=>
 ∃r18:(Sl×Sl×Sl×Sl×Unit),(loadVar 49 t4).run Tryz.prog w17=.ok (.agg #[(.slice r18.1.base r18.1.len r18.1.cap),(.slice r18.2.1.base r18.2.1.len r18.2.1.cap),(.slice r18.2.2.1.base r18.2.2.1.len r18.2.2.1.cap),(.slice r18.2.2.2.1.base r18.2.2.2.1.len r18.2.2.2.1.cap)]) w17∧R (.returned (.tuple #[(.agg #[(.slice r18.1.base r18.1.len r18.1.cap),(.slice r18.2.1.base r18.2.1.len r18.2.1.cap),(.slice r18.2.2.1.base r18.2.2.1.len r18.2.2.1.cap),(.slice r18.2.2.2.1.base r18.2.2.2.1.len r18.2.2.2.1.cap)]),(.int .i64 v7)])) w17) w) (Held w.drew (fun S64=>Pu Tryz.prog (amZ v0) (.one (.at .addr)) (fun(x65:Addr) w66=>
 RdS Tryz.prog S64 (Instr.loadAt 3 (.pointer (some (Addr.add x65 1)))) (.one (.at (.int .i64))) (fun(x67:Int) w68=>
 Pu Tryz.prog (amZ v0) (.one (.at .addr)) (fun(x69:Addr) w70=>
 RdS Tryz.prog S64 (Instr.loadAt 3 (.pointer (some (Addr.add x69 1)))) (.one (.at (.int .i64))) (fun(x71:Int) w72=>
 Pu Tryz.prog (Instr.sliceAt 25 (.slice v6.base v6.len v6.cap) none (some (.int .i64 x67)) (some (.int .i64 x71))) (.one (.at .sl)) (fun(x73:Sl) w74=>
 (Wr Tryz.prog (Builtin.append_ #[25,25] 25 #[(.slice none 0 0),(.slice v1.base v1.len v1.cap)]) (.one (.at .sl)) (fun(x75:Sl) w76=>
 S64 w76∧(Wr Tryz.prog (Instr.alloc 49 true (.tuple #[])) (.one (.at .addr)) (fun(x77:Addr) w78=>
 S64 w78∧(Wu Tryz.prog (Instr.storeAt 49 (.pointer (some x77)) (.agg #[(.slice x75.base x75.len x75.cap),(.slice x73.base x73.len x73.cap),(.slice none 0 0),(.slice none 0 0)])) (fun w79=>
 S64 w79∧(mC_Plan.j2 R v0 v1 t4 v6 x77 w79)) w78)) w76)) w74)∧(Wr Tryz.prog (Instr.alloc 49 true (.tuple #[])) (.one (.at .addr)) (fun(x80:Addr) w81=>
 S64 w81∧(Wr Tryz.prog (Builtin.append_ #[25,25] 25 #[(.slice none 0 0),(.slice v1.base v1.len v1.cap)]) (.one (.at .sl)) (fun(x82:Sl) w83=>
 S64 w83∧(Wu Tryz.prog (Instr.storeAt 49 (.pointer (some x80)) (.agg #[(.slice x82.base x82.len x82.cap),(.slice x73.base x73.len x73.cap),(.slice none 0 0),(.slice none 0 0)])) (fun w84=>
 S64 w84∧(mC_Plan.j2 R v0 v1 t4 v6 x80 w84)) w83)) w81)) w74)) w72) w70) w68) w66) w.drew))
def mC_Plan.M(R:EPq)(v0:(Option Addr))(v1:Sl)(w:World):Prop:=
 Wr Tryz.prog (Instr.alloc 49 true (.tuple #[])) (.one (.at .addr)) (fun(x1:Addr) w2=>
 Pu Tryz.prog (do eqGuard .eql 26 (.tmp 14) (.const (.pointer none)) (.pointer v0) (.pointer none);binOp .eql 26 (.pointer v0) (.pointer none)) (.one (.at .bool)) (fun(x3:Bool) w4=>
 Cd x3 (Wu Tryz.prog (Instr.storeAt 49 (.pointer (some x1)) (.agg #[(.slice none 0 0),(.slice none 0 0),(.slice none 0 0),(.slice none 0 0)])) (fun w5=>
 ∃r6:(Sl×Sl×Sl×Sl×Unit),(loadVar 49 x1).run Tryz.prog w5=.ok (.agg #[(.slice r6.1.base r6.1.len r6.1.cap),(.slice r6.2.1.base r6.2.1.len r6.2.1.cap),(.slice r6.2.2.1.base r6.2.2.1.len r6.2.2.1.cap),(.slice r6.2.2.2.1.base r6.2.2.2.1.len r6.2.2.2.1.cap)]) w5∧R (.returned (.tuple #[(.agg #[(.slice r6.1.base r6.1.len r6.1.cap),(.slice r6.2.1.base r6.2.1.len r6.2.1.cap),(.slice r6.2.2.1.base r6.2.2.1.len r6.2.2.1.cap),(.slice r6.2.2.2.1.base r6.2.2.2.1.len r6.2.2.2.1.cap)]),(.int .i64 1)])) w5) w4) (Cl Tryz.prog 40 #[(.pointer v0),(.slice v1.base v1.len v1.cap)] (.one (.at .bool)) (fun(x7:Bool) w8=>
 Cd (!x7) (Wu Tryz.prog (Instr.storeAt 49 (.pointer (some x1)) (.agg #[(.slice none 0 0),(.slice none 0 0),(.slice none 0 0),(.slice none 0 0)])) (fun w9=>
 ∃r10:(Sl×Sl×Sl×Sl×Unit),(loadVar 49 x1).run Tryz.prog w9=.ok (.agg #[(.slice r10.1.base r10.1.len r10.1.cap),(.slice r10.2.1.base r10.2.1.len r10.2.1.cap),(.slice r10.2.2.1.base r10.2.2.1.len r10.2.2.1.cap),(.slice r10.2.2.2.1.base r10.2.2.2.1.len r10.2.2.2.1.cap)]) w9∧R (.returned (.tuple #[(.agg #[(.slice r10.1.base r10.1.len r10.1.cap),(.slice r10.2.1.base r10.2.1.len r10.2.1.cap),(.slice r10.2.2.1.base r10.2.2.1.len r10.2.2.1.cap),(.slice r10.2.2.2.1.base r10.2.2.2.1.len r10.2.2.2.1.cap)]),(.int .i64 110)])) w9) w8) (Pu Tryz.prog (amZ v0) (.one (.at .addr)) (fun(x11:Addr) w12=>
 Rd Tryz.prog (Instr.loadAt 3 (.pointer (some (Addr.add x11 2)))) (.one (.at (.int .i64))) (fun(x13:Int) w14=>
 Cd (decide (((v1.len:Nat):Int)>x13)) (Wu Tryz.prog (Instr.storeAt 49 (.pointer (some x1)) (.agg #[(.slice none 0 0),(.slice none 0 0),(.slice none 0 0),(.slice none 0 0)])) (fun w15=>
 ∃r16:(Sl×Sl×Sl×Sl×Unit),(loadVar 49 x1).run Tryz.prog w15=.ok (.agg #[(.slice r16.1.base r16.1.len r16.1.cap),(.slice r16.2.1.base r16.2.1.len r16.2.1.cap),(.slice r16.2.2.1.base r16.2.2.1.len r16.2.2.1.cap),(.slice r16.2.2.2.1.base r16.2.2.2.1.len r16.2.2.2.1.cap)]) w15∧R (.returned (.tuple #[(.agg #[(.slice r16.1.base r16.1.len r16.1.cap),(.slice r16.2.1.base r16.2.1.len r16.2.1.cap),(.slice r16.2.2.1.base r16.2.2.1.len r16.2.2.1.cap),(.slice r16.2.2.2.1.base r16.2.2.2.1.len r16.2.2.2.1.cap)]),(.int .i64 9)])) w15) w14) (Held w14.drew (fun S85=>Pu Tryz.prog (amZ v0) (.one (.at .addr)) (fun(x86:Addr) w87=>
 RdS Tryz.prog S85 (Instr.loadAt 3 (.pointer (some (Addr.add x86 1)))) (.one (.at (.int .i64))) (fun(x88:Int) w89=>
 Pu Tryz.prog (amZ v0) (.one (.at .addr)) (fun(x90:Addr) w91=>
 RdS Tryz.prog S85 (Instr.loadAt 3 (.pointer (some (Addr.add x90 2)))) (.one (.at (.int .i64))) (fun(x92:Int) w93=>
 Cl Tryz.prog 41 #[(.int .i64 (IntKind.wrap .i64 (x88+x92))),(.slice v1.base v1.len v1.cap)] (.tup [.at .sl,.at (.int .i64)]) (fun x94 w95=>
 S85 w95∧(mC_Plan.j1 R v0 v1 x1 x94.1 x94.2.1 w95)) w93) w91) w89) w87) w14.drew))) w12) w8)) w4)) w2) w
noncomputable def mC_Plan.ann(R:EPq):Ann:=
 .seq (.reg (.op 0 (.wr (.one (.at .addr))) (.op 1 .now (.done)))) (.seq (.block (.seq (.reg (.op 0 .now (.op 1 (.pu (.one (.at .bool))) (.op 2 .now (.done))))) (.cond (.seq (.reg (.op 0 .now (.op 1 .wu (.op 2 .now (.done))))) (.leaf)) (.seq (.reg (.op 0 .now (.op 1 .now (.op 2 (.cl (.one (.at .bool))) (.op 3 .now (.op 4 .now (.done))))))) (.cond (.seq (.reg (.op 0 .now (.op 1 .wu (.op 2 .now (.done))))) (.leaf)) (.seq (.reg (.op 0 .now (.op 1 .now (.op 2 .now (.op 3 qpA (.op 4 .now (.op 5 (.rd (.one qcI)) (.op 6 .now (.op 7 .now (.done)))))))))) (.cond (.seq (.reg (.op 0 .now (.op 1 .wu (.op 2 .now (.done))))) (.leaf)) (.leaf)))))))) (.join [(0,qcP),(1,qcS),(4,.at .addr),(6,qcS),(7,qcI)] (fun s w=>mC_Plan.j1 R s.1 s.2.1 s.2.2.1 s.2.2.2.1 s.2.2.2.2.1 w) (.regD (.op 0 .now (.op 1 qpA (.op 2 .now (.op 3 (.rd (.one qcI)) (.op 4 .now (.op 5 qpA (.op 6 .now (.op 7 (.rd (.one qcI)) (.op 8 .now (.op 9 .now (.op 10 (.cl (.tup [.at .sl,.at (.int .i64)])) (.op 11 .now (.op 12 .now (.op 13 .now (.op 14 .now (.op 15 .now (.done)))))))))))))))))) (.seq (.seq (.reg qN2) (.cond (.seq (.reg (.op 0 .now (.op 1 .now (.op 2 .wu (.op 3 .now (.done)))))) (.leaf)) (.leaf))) (.join [(0,qcP),(1,qcS),(4,.at .addr),(6,qcS),(8,.at .addr)] (fun s w=>mC_Plan.j2 R s.1 s.2.1 s.2.2.1 s.2.2.2.1 s.2.2.2.2.1 w) (.regD (.op 0 .now (.op 2 .now (.op 3 .now (.op 4 qpA (.op 5 .now (.op 6 (.rd (.one qcI)) (.op 7 .now (.op 8 qpA (.op 9 .now (.op 10 (.rd (.one qcI)) (.op 11 (.pu (.one qcS)) (.fork2 1 (.wr (.one qcS)) (.op 12 .now (.op 13 (.wr (.one (.at .addr))) (.op 14 .wu (.done)))) 13 (.wr (.one (.at .addr))) (.op 1 (.wr (.one qcS)) (.op 12 .now (.op 14 .wu (.done))))))))))))))))) (.seq (.seq (.reg qN3) (.cond (.seq (.reg (.op 0 (.rd (.one (.agg [.sl,.sl,.sl,.sl]))) (.op 1 .wu (.op 2 .now (.done))))) (.leaf)) (.leaf))) (.seq (.seq (.reg (.op 0 .now (.op 1 qpA (.op 2 .now (.op 3 (.rd (.one qcP)) (.op 4 .now (.op 5 (.cl (.tup [.at .sl,.at .bool])) (.op 6 .now (.op 7 .now (.op 8 .now (.op 9 .now (.op 10 .now (.done))))))))))))) (.seq (.reg qN1) (.cond (.seq (.reg (.op 0 .now (.op 1 .now (.op 2 .wu (.done))))) (.seq (.reg (.op 0 (.rd (.one (.agg [.sl,.sl,.sl,.sl]))) (.op 1 .wu (.op 2 .now (.done))))) (.leaf))) (.leaf)))) (.seq (.regD (.op 0 .now (.op 1 qpA (.op 2 .now (.op 3 (.rd (.one qcI)) (.op 4 .now (.op 5 qpA (.op 6 .now (.op 7 (.rd (.one qcI)) (.op 8 .now (.op 9 qpA (.op 10 .now (.op 11 (.rd (.one qcI)) (.op 12 .now (.op 13 .now (.op 14 (.cl (.tup [.at .sl,.at (.int .i64)])) (.op 15 .now (.op 16 .now (.op 17 .now (.op 18 .now (.op 19 .now (.done)))))))))))))))))))))) (.seq (.seq (.reg qN2) (.cond (.seq (.reg (.op 0 .now (.op 1 .now (.op 2 .wu (.op 3 .now (.done)))))) (.leaf)) (.leaf))) (.seq (.seq (.reg (.op 0 .now (.op 1 qpA (.op 2 .now (.op 3 (.rd (.one qcP)) (.op 4 .now (.op 5 .now (.op 6 (.cl (.one qcI)) (.op 7 .now (.done)))))))))) (.seq (.reg qN2) (.cond (.seq (.reg (.op 0 .now (.op 1 .now (.op 2 .wu (.op 3 .now (.done)))))) (.leaf)) (.leaf)))) (.seq (.reg (.op 0 .now (.op 1 .now (.op 2 .wu (.done))))) (.seq (.reg (.op 0 (.rd (.one (.agg [.sl,.sl,.sl,.sl]))) (.op 1 .wu (.op 2 .now (.done))))) (.leaf))))))))))))
theorem mC_Plan.run(R:EPq)(v0:(Option Addr))(v1:Sl)(w:World)(h:mC_Plan.M R v0 v1 w):Calls Tryz.prog 22 #[(.pointer v0),(.slice v1.base v1.len v1.cap)] w R:=by
 refine aaZ ayZ Tryz.func22 (c:=mC_Plan.body) (by kernel_rfl) [.agg [.sl,.sl,.sl,.sl],.at (.int .i64)] (mC_Plan.ann R) 116 Tryz.ntmps22 [.cell 4 49,.tmp 5] (by kernel_rfl) (Nat.le_of_ble_eq_true (by kernel_rfl)) ?_ ?_
 ·exact⟨tv,⟨⟨tv,⟨⟨tv,tv⟩,⟨tv,⟨⟨tv,tv⟩,⟨tv,⟨⟨tv,tv⟩,tv⟩⟩⟩⟩⟩⟩,⟨fun s w=>mq,(show Region.noSelect _=true by kernel_rfl),⟨⟨tv,⟨⟨tv,tv⟩,tv⟩⟩,⟨fun s w=>mq,(show Region.noSelect _=true by kernel_rfl),⟨⟨tv,⟨⟨tv,tv⟩,tv⟩⟩,⟨⟨tv,⟨tv,⟨⟨tv,⟨tv,tv⟩⟩,tv⟩⟩⟩,⟨(show Region.noSelect _=true by kernel_rfl),⟨⟨tv,⟨⟨tv,tv⟩,tv⟩⟩,⟨⟨tv,⟨tv,⟨⟨tv,tv⟩,tv⟩⟩⟩,⟨tv,⟨tv,tv⟩⟩⟩⟩⟩⟩⟩⟩⟩⟩⟩⟩
 ·exact Eq.mp (show mC_Plan.M R v0 v1 w=_ by kernel_rfl) h
noncomputable def mC_ReconstructData.body:Code:=(Tryz.f27.body).getD .skip
def mC_ReconstructData.M(R:EPq)(v0:(Option Addr))(v1:Sl)(w:World):Prop:=
 Cl Tryz.prog 39 #[(.pointer v0),(.slice v1.base v1.len v1.cap),(.bool true)] (.one (.at (.int .i64))) (fun(x1:Int) w2=>
 R (.returned (.int .i64 x1)) w2) w
noncomputable def mC_ReconstructData.ann(R:EPq):Ann:=
 .seq (.reg qN1) (.seq (.reg (.op 0 .now (.op 1 .now (.op 2 (.cl (.one qcI)) (.op 3 .now (.done)))))) (.leaf))
theorem mC_ReconstructData.run(R:EPq)(v0:(Option Addr))(v1:Sl)(w:World)(h:mC_ReconstructData.M R v0 v1 w):Calls Tryz.prog 27 #[(.pointer v0),(.slice v1.base v1.len v1.cap)] w R:=by
 refine aaZ ayZ Tryz.func27 (c:=mC_ReconstructData.body) (by kernel_rfl) [.at (.int .i64)] (mC_ReconstructData.ann R) 8 Tryz.ntmps27 [.tmp 4] (by kernel_rfl) (Nat.le_of_ble_eq_true (by kernel_rfl)) ?_ ?_
 ·exact⟨tv,⟨tv,tv⟩⟩
 ·exact Eq.mp (show mC_ReconstructData.M R v0 v1 w=_ by kernel_rfl) h
noncomputable def mC_EncodeSpan.body:Code:=(Tryz.f28.body).getD .skip
def mC_EncodeSpan.j1(R:EPq)(v0:(Option Addr))(v1:Sl)(v5:Addr)(v8:Int)(w:World):Prop:=
 Cd (v8 !=0) (R (.returned (.int .i64 v8)) w) (Held w.drew (fun S5=>Pu Tryz.prog (amZ v0) (.one (.at .addr)) (fun(x6:Addr) w7=>
 RdS Tryz.prog S5 (Instr.loadAt 75 (.pointer (some (Addr.add x6 3)))) (.one (.at .ptr)) (fun(x8:(Option Addr)) w9=>
 Pu Tryz.prog (amZ v0) (.one (.at .addr)) (fun(x10:Addr) w11=>
 RdS Tryz.prog S5 (Instr.loadAt 30 (.pointer (some (Addr.add x10 4)))) (.one (.at .sl)) (fun(x12:Sl) w13=>
 Pu Tryz.prog (amZ v0) (.one (.at .addr)) (fun(x14:Addr) w15=>
 RdS Tryz.prog S5 (Instr.loadAt 3 (.pointer (some (Addr.add x14 1)))) (.one (.at (.int .i64))) (fun(x16:Int) w17=>
 Pu Tryz.prog (Instr.sliceAt 30 (.slice v1.base v1.len v1.cap) none (some (.int .i64 x16)) none) (.one (.at .sl)) (fun(x18:Sl) w19=>
 Pu Tryz.prog (amZ v0) (.one (.at .addr)) (fun(x20:Addr) w21=>
 RdS Tryz.prog S5 (Instr.loadAt 3 (.pointer (some (Addr.add x20 1)))) (.one (.at (.int .i64))) (fun(x22:Int) w23=>
 Pu Tryz.prog (Instr.sliceAt 30 (.slice v1.base v1.len v1.cap) (some (.int .i64 x22)) none none) (.one (.at .sl)) (fun(x24:Sl) w25=>
 RdS Tryz.prog S5 (Instr.loadAt 41 (.pointer (some v5))) (.one (.agg [.int .i64,.int .i64])) (fun x26 w27=>
 Cl Tryz.prog 45 #[(.pointer x8),(.slice x12.base x12.len x12.cap),(.slice x18.base x18.len x18.cap),(.slice x24.base x24.len x24.cap),(.agg #[(.int .i64 x26.1),(.int .i64 x26.2.1)])] (.one (.at (.int .i64))) (fun(x28:Int) w29=>
 S5 w29∧(R (.returned (.int .i64 x28)) w29)) w27) w25) w23) w21) w19) w17) w15) w13) w11) w9) w7) w.drew))
def mC_EncodeSpan.M(R:EPq)(v0:(Option Addr))(v1:Sl)(v2:(Int×Int×Unit))(w:World):Prop:=
 Wr Tryz.prog (Instr.box 41 (.agg #[(.int .i64 v2.1),(.int .i64 v2.2.1)])) (.one (.at .addr)) (fun(x1:Addr) w2=>
 Cl Tryz.prog 34 #[(.pointer v0),(.slice v1.base v1.len v1.cap)] (.tup [.at (.int .i64),.at (.int .i64)]) (fun x3 w4=>
 Cd (x3.2.1==0) (Rd Tryz.prog (Instr.loadAt 41 (.pointer (some x1))) (.one (.agg [.int .i64,.int .i64])) (fun x30 w31=>
 Cl Tryz.prog 35 #[(.agg #[(.int .i64 x30.1),(.int .i64 x30.2.1)]),(.int .i64 x3.1)] (.one (.at (.int .i64))) (fun(x32:Int) w33=>
 mC_EncodeSpan.j1 R v0 v1 x1 x32 w33) w31) w4) (mC_EncodeSpan.j1 R v0 v1 x1 x3.2.1 w4)) w2) w
noncomputable def mC_EncodeSpan.ann(R:EPq):Ann:=
 .seq (.reg (.op 0 (.wr (.one (.at .addr))) (.op 1 .now (.done)))) (.seq (.reg (.op 0 .now (.op 1 .now (.op 2 (.cl (.tup [.at (.int .i64),.at (.int .i64)])) (.op 3 .now (.op 4 .now (.op 5 .now (.op 6 .now (.op 7 .now (.done)))))))))) (.join [(0,qcP),(1,qcS),(5,.at .addr),(8,qcI)] (fun s w=>mC_EncodeSpan.j1 R s.1 s.2.1 s.2.2.1 s.2.2.2.1 w) (.seq (.reg qN2) (.cond (.reg (.op 0 (.rd (.one (.agg [.int .i64,.int .i64]))) (.op 1 .now (.op 2 (.cl (.one qcI)) (.op 3 .now (.done)))))) (.leaf))) (.seq (.seq (.reg qN2) (.cond (.seq (.reg qN2) (.leaf)) (.leaf))) (.seq (.regD (.op 0 .now (.op 1 qpA (.op 2 .now (.op 3 (.rd (.one qcP)) (.op 4 .now (.op 5 qpA (.op 6 .now (.op 7 qrS (.op 8 .now (.op 9 .now (.op 10 qpA (.op 11 .now (.op 12 (.rd (.one qcI)) (.op 13 (.pu (.one qcS)) (.op 14 .now (.op 15 .now (.op 16 qpA (.op 17 .now (.op 18 (.rd (.one qcI)) (.op 19 (.pu (.one qcS)) (.op 20 (.rd (.one (.agg [.int .i64,.int .i64]))) (.op 21 (.cl (.one qcI)) (.op 22 .now (.done))))))))))))))))))))))))) (.leaf)))))
theorem mC_EncodeSpan.run(R:EPq)(v0:(Option Addr))(v1:Sl)(v2:(Int×Int×Unit))(w:World)(h:mC_EncodeSpan.M R v0 v1 v2 w):Calls Tryz.prog 28 #[(.pointer v0),(.slice v1.base v1.len v1.cap),(.agg #[(.int .i64 v2.1),(.int .i64 v2.2.1)])] w R:=by
 refine aaZ ayZ Tryz.func28 (c:=mC_EncodeSpan.body) (by kernel_rfl) [.at (.int .i64)] (mC_EncodeSpan.ann R) 45 Tryz.ntmps28 [.tmp 6] (by kernel_rfl) (Nat.le_of_ble_eq_true (by kernel_rfl)) ?_ ?_
 ·exact⟨tv,⟨tv,⟨fun s w=>mq,⟨tv,⟨tv,tv⟩⟩,⟨⟨tv,⟨⟨tv,tv⟩,tv⟩⟩,⟨(show Region.noSelect _=true by kernel_rfl),tv⟩⟩⟩⟩⟩
 ·exact Eq.mp (show mC_EncodeSpan.M R v0 v1 v2 w=_ by kernel_rfl) h
noncomputable def mC_UpdateSpan.body:Code:=(Tryz.f29.body).getD .skip
def mC_UpdateSpan.b2(R:EPq)(k1:((Option Addr)×Sl×Sl×Addr×Sl×Sl×Int×Int×Unit)→WPq)(k2:((Option Addr)×Sl×Sl×Addr×Sl×Int×Sl×Sl×Int×Int×Int×Int×Unit)→WPq)(v0:(Option Addr))(v1:Sl)(v2:Sl)(v7:Addr)(v12:Sl)(v14:Int)(v15:Sl)(t53:Sl)(t54:Int)(t55:Int)(t74:Int)(t75:Int)(w:World):Prop:=
 Cd (decide (t75<t74)) (Pu Tryz.prog (amZ v0) (.one (.at .addr)) (fun(x27:Addr) w28=>
 Rd Tryz.prog (Instr.loadAt 30 (.pointer (some (Addr.add x27 4)))) (.one (.at .sl)) (fun(x29:Sl) w30=>
 Pu Tryz.prog (Instr.indexAt 30 (.slice x29.base x29.len x29.cap) (.int .i64 t75)) (.one (.at .addr)) (fun(x31:Addr) w32=>
 Rd Tryz.prog (Instr.loadAt 24 (.pointer (some x31))) (.one (.at .sl)) (fun(x33:Sl) w34=>
 Pu Tryz.prog (Instr.indexAt 24 (.slice x33.base x33.len x33.cap) (.int .i64 v14)) (.one (.at .addr)) (fun(x35:Addr) w36=>
 Rd Tryz.prog (Instr.loadAt 5 (.pointer (some x35))) (.one (.at (.int .u8))) (fun(x37:Int) w38=>
 Pu Tryz.prog (Instr.indexAt 24 (.slice v12.base v12.len v12.cap) (.int .i64 t75)) (.one (.at .addr)) (fun(x39:Addr) w40=>
 Wu Tryz.prog (Instr.storeAt 5 (.pointer (some x39)) (.int .u8 x37)) (fun w41=>
 k2 (v0,v1,v2,v7,v12,v14,v15,t53,t54,t55,t74,(IntKind.wrap .i64 (t75+1)),()) w41) w40) w38) w36) w34) w32) w30) w28) w) (Held w.drew (fun S42=>Pu Tryz.prog (amZ v0) (.one (.at .addr)) (fun(x43:Addr) w44=>
 RdS Tryz.prog S42 (Instr.loadAt 75 (.pointer (some (Addr.add x43 3)))) (.one (.at .ptr)) (fun(x45:(Option Addr)) w46=>
 Pu Tryz.prog (amZ v0) (.one (.at .addr)) (fun(x47:Addr) w48=>
 RdS Tryz.prog S42 (Instr.loadAt 3 (.pointer (some (Addr.add x47 1)))) (.one (.at (.int .i64))) (fun(x49:Int) w50=>
 Pu Tryz.prog (Instr.sliceAt 30 (.slice v1.base v1.len v1.cap) (some (.int .i64 x49)) none none) (.one (.at .sl)) (fun(x51:Sl) w52=>
 RdS Tryz.prog S42 (Instr.loadAt 41 (.pointer (some v7))) (.one (.agg [.int .i64,.int .i64])) (fun x53 w54=>
 Cl Tryz.prog 47 #[(.pointer x45),(.slice v12.base v12.len v12.cap),(.slice v15.base v15.len v15.cap),(.slice x51.base x51.len x51.cap),(.agg #[(.int .i64 x53.1),(.int .i64 x53.2.1)])] (.one (.at (.int .i64))) (fun(x55:Int) w56=>
 S42 w56∧(Cd (x55 !=0) (R (.returned (.int .i64 x55)) w56) (k1 (v0,v1,v2,v7,v12,t53,t54,(IntKind.wrap .i64 (t55+1)),()) w56))) w54) w52) w50) w48) w46) w44) w.drew))
def mC_UpdateSpan.l2(R:EPq)(k1:((Option Addr)×Sl×Sl×Addr×Sl×Sl×Int×Int×Unit)→WPq):((Option Addr)×Sl×Sl×Addr×Sl×Int×Sl×Sl×Int×Int×Int×Int×Unit)→World→Prop:=arZ (fun k2 s w=>mC_UpdateSpan.b2 R k1 k2 s.1 s.2.1 s.2.2.1 s.2.2.2.1 s.2.2.2.2.1 s.2.2.2.2.2.1 s.2.2.2.2.2.2.1 s.2.2.2.2.2.2.2.1 s.2.2.2.2.2.2.2.2.1 s.2.2.2.2.2.2.2.2.2.1 s.2.2.2.2.2.2.2.2.2.2.1 s.2.2.2.2.2.2.2.2.2.2.2.1 w)
def mC_UpdateSpan.b1(R:EPq)(k1:((Option Addr)×Sl×Sl×Addr×Sl×Sl×Int×Int×Unit)→WPq)(v0:(Option Addr))(v1:Sl)(v2:Sl)(v7:Addr)(v12:Sl)(t53:Sl)(t54:Int)(t55:Int)(w:World):Prop:=
 Cd (decide (t55<t54)) (Pu Tryz.prog (Instr.indexAt 25 (.slice t53.base t53.len t53.cap) (.int .i64 t55)) (.one (.at .addr)) (fun(x11:Addr) w12=>
 Rd Tryz.prog (Instr.loadAt 3 (.pointer (some x11))) (.one (.at (.int .i64))) (fun(x13:Int) w14=>
 Pu Tryz.prog (Instr.indexAt 30 (.slice v1.base v1.len v1.cap) (.int .i64 x13)) (.one (.at .addr)) (fun(x15:Addr) w16=>
 Rd Tryz.prog (Instr.loadAt 24 (.pointer (some x15))) (.one (.at .sl)) (fun(x17:Sl) w18=>
 Wr Tryz.prog (Builtin.append_ #[24,24] 24 #[(.slice none 0 0),(.slice x17.base x17.len x17.cap)]) (.one (.at .sl)) (fun(x19:Sl) w20=>
 Pu Tryz.prog (Instr.indexAt 30 (.slice v2.base v2.len v2.cap) (.int .i64 x13)) (.one (.at .addr)) (fun(x21:Addr) w22=>
 Rd Tryz.prog (Instr.loadAt 24 (.pointer (some x21))) (.one (.at .sl)) (fun(x23:Sl) w24=>
 Cl Tryz.prog 46 #[(.slice x19.base x19.len x19.cap),(.slice x23.base x23.len x23.cap)] (.one (.at (.int .i64))) (fun(x25:Int) w26=>
 Cd (x25 !=0) (R (.returned (.int .i64 x25)) w26) (mC_UpdateSpan.l2 R k1 (v0,v1,v2,v7,v12,x13,x19,t53,t54,t55,((v12.len:Nat):Int),0,()) w26)) w24) w22) w20) w18) w16) w14) w12) w) (R (.returned (.int .i64 0)) w)
def mC_UpdateSpan.l1(R:EPq):((Option Addr)×Sl×Sl×Addr×Sl×Sl×Int×Int×Unit)→World→Prop:=arZ (fun k1 s w=>mC_UpdateSpan.b1 R k1 s.1 s.2.1 s.2.2.1 s.2.2.2.1 s.2.2.2.2.1 s.2.2.2.2.2.1 s.2.2.2.2.2.2.1 s.2.2.2.2.2.2.2.1 w)
def mC_UpdateSpan.j2(R:EPq)(v0:(Option Addr))(v1:Sl)(v2:Sl)(v7:Addr)(v10:Sl)(v11:Int)(w:World):Prop:=
 Cd (v11 !=0) (R (.returned (.int .i64 v11)) w) (Pu Tryz.prog (amZ v0) (.one (.at .addr)) (fun(x5:Addr) w6=>
 Rd Tryz.prog (Instr.loadAt 3 (.pointer (some (Addr.add x5 2)))) (.one (.at (.int .i64))) (fun(x7:Int) w8=>
 Wr Tryz.prog (Instr.makeSlice 24 (.int .i64 x7) (.int .i64 x7)) (.one (.at .sl)) (fun(x9:Sl) w10=>
 mC_UpdateSpan.l1 R (v0,v1,v2,v7,x9,v10,((v10.len:Nat):Int),0,()) w10) w8) w6) w)
def mC_UpdateSpan.j1(R:EPq)(v0:(Option Addr))(v1:Sl)(v2:Sl)(v7:Addr)(v9:Int)(v10:Sl)(v11:Int)(w:World):Prop:=
 Cd (v11==0) (Rd Tryz.prog (Instr.loadAt 41 (.pointer (some v7))) (.one (.agg [.int .i64,.int .i64])) (fun x57 w58=>
 Cl Tryz.prog 35 #[(.agg #[(.int .i64 x57.1),(.int .i64 x57.2.1)]),(.int .i64 v9)] (.one (.at (.int .i64))) (fun(x59:Int) w60=>
 mC_UpdateSpan.j2 R v0 v1 v2 v7 v10 x59 w60) w58) w) (mC_UpdateSpan.j2 R v0 v1 v2 v7 v10 v11 w)
def mC_UpdateSpan.M(R:EPq)(v0:(Option Addr))(v1:Sl)(v2:Sl)(v3:(Int×Int×Unit))(w:World):Prop:=
 Wr Tryz.prog (Instr.box 41 (.agg #[(.int .i64 v3.1),(.int .i64 v3.2.1)])) (.one (.at .addr)) (fun(x1:Addr) w2=>
 Pu Tryz.prog (do eqGuard .eql 26 (.tmp 19) (.const (.pointer none)) (.pointer v0) (.pointer none);binOp .eql 26 (.pointer v0) (.pointer none)) (.one (.at .bool)) (fun(x3:Bool) w4=>
 Cd x3 (R (.returned (.int .i64 1)) w4) (Held w4.drew (fun S61=>Pu Tryz.prog (amZ v0) (.one (.at .addr)) (fun(x62:Addr) w63=>
 RdS Tryz.prog S61 (Instr.loadAt 69 (.pointer (some x62))) (.one (.at (.int .i64))) (fun(x64:Int) w65=>
 Pu Tryz.prog (amZ v0) (.one (.at .addr)) (fun(x66:Addr) w67=>
 RdS Tryz.prog S61 (Instr.loadAt 3 (.pointer (some (Addr.add x66 1)))) (.one (.at (.int .i64))) (fun(x68:Int) w69=>
 Pu Tryz.prog (amZ v0) (.one (.at .addr)) (fun(x70:Addr) w71=>
 RdS Tryz.prog S61 (Instr.loadAt 3 (.pointer (some (Addr.add x70 2)))) (.one (.at (.int .i64))) (fun(x72:Int) w73=>
 Cl Tryz.prog 37 #[(.int .i64 x64),(.int .i64 x68),(.int .i64 x72),(.slice v1.base v1.len v1.cap),(.slice v2.base v2.len v2.cap)] (.tup [.at (.int .i64),.at .sl,.at (.int .i64)]) (fun x74 w75=>
 S61 w75∧(mC_UpdateSpan.j1 R v0 v1 v2 x1 x74.1 x74.2.1 x74.2.2.1 w75)) w73) w71) w69) w67) w65) w63) w4.drew))) w2) w
noncomputable def mC_UpdateSpan.ann(R:EPq):Ann:=
 .seq (.reg (.op 0 (.wr (.one (.at .addr))) (.op 1 .now (.done)))) (.seq (.seq (.reg (.op 0 .now (.op 1 (.pu (.one (.at .bool))) (.done)))) (.cond (.seq (.reg qN1) (.leaf)) (.leaf))) (.join [(0,qcP),(1,qcS),(2,qcS),(7,.at .addr),(9,qcI),(10,qcS),(11,qcI)] (fun s w=>mC_UpdateSpan.j1 R s.1 s.2.1 s.2.2.1 s.2.2.2.1 s.2.2.2.2.1 s.2.2.2.2.2.1 s.2.2.2.2.2.2.1 w) (.regD (.op 0 .now (.op 1 qpA (.op 2 .now (.op 3 (.rd (.one qcI)) (.op 4 .now (.op 5 qpA (.op 6 .now (.op 7 (.rd (.one qcI)) (.op 8 .now (.op 9 qpA (.op 10 .now (.op 11 (.rd (.one qcI)) (.op 12 .now (.op 13 .now (.op 14 (.cl (.tup [.at (.int .i64),.at .sl,.at (.int .i64)])) (.op 15 .now (.op 16 .now (.op 17 .now (.op 18 .now (.op 19 .now (.op 20 .now (.op 21 .now (.done)))))))))))))))))))))))) (.join [(0,qcP),(1,qcS),(2,qcS),(7,.at .addr),(10,qcS),(11,qcI)] (fun s w=>mC_UpdateSpan.j2 R s.1 s.2.1 s.2.2.1 s.2.2.2.1 s.2.2.2.2.1 s.2.2.2.2.2.1 w) (.seq (.reg qN2) (.cond (.reg (.op 0 (.rd (.one (.agg [.int .i64,.int .i64]))) (.op 1 .now (.op 2 (.cl (.one qcI)) (.op 3 .now (.done)))))) (.leaf))) (.seq (.seq (.reg qN2) (.cond (.seq (.reg qN2) (.leaf)) (.leaf))) (.seq (.reg (.op 0 .now (.op 1 qpA (.op 2 .now (.op 3 (.rd (.one qcI)) (.op 4 (.wr (.one qcS)) (.op 5 .now (.done)))))))) (.seq (.seq (.reg qN3) (.block (.loop [(0,qcP),(1,qcS),(2,qcS),(7,.at .addr),(12,qcS),(53,qcS),(54,qcI),(55,qcI)] (fun k1 s w=>mC_UpdateSpan.b1 R k1 s.1 s.2.1 s.2.2.1 s.2.2.2.1 s.2.2.2.2.1 s.2.2.2.2.2.1 s.2.2.2.2.2.2.1 s.2.2.2.2.2.2.2.1 w) (fun k1=>.seq (.reg qN1) (.seq (.cond (.leaf) (.leaf)) (.seq (.block (.seq (.reg (.op 0 qpA (.op 1 (.rd (.one qcI)) (.op 2 .now (.done))))) (.seq (.reg (.op 0 .now (.op 1 .now (.op 2 qpA (.op 3 qrS (.op 4 (.wr (.one qcS)) (.op 5 .now (.done)))))))) (.seq (.seq (.reg (.op 0 .now (.op 1 .now (.op 2 .now (.op 3 qpA (.op 4 qrS (.op 5 (.cl (.one qcI)) (.op 6 .now (.done))))))))) (.seq (.reg qN2) (.cond (.seq (.reg qN2) (.leaf)) (.leaf)))) (.seq (.seq (.reg qN3) (.block (.loop [(0,qcP),(1,qcS),(2,qcS),(7,.at .addr),(12,qcS),(14,qcI),(15,qcS),(53,qcS),(54,qcI),(55,qcI),(74,qcI),(75,qcI)] (fun k2 s w=>mC_UpdateSpan.b2 R k1 k2 s.1 s.2.1 s.2.2.1 s.2.2.2.1 s.2.2.2.2.1 s.2.2.2.2.2.1 s.2.2.2.2.2.2.1 s.2.2.2.2.2.2.2.1 s.2.2.2.2.2.2.2.2.1 s.2.2.2.2.2.2.2.2.2.1 s.2.2.2.2.2.2.2.2.2.2.1 s.2.2.2.2.2.2.2.2.2.2.2.1 w) (fun k2=>.seq (.reg qN1) (.seq (.cond (.leaf) (.leaf)) (.seq (.block (.seq (.reg qN2) (.reg (.op 0 .now (.op 1 .now (.op 2 .now (.op 3 qpA (.op 4 .now (.op 5 qrS (.op 6 .now (.op 7 qpA (.op 8 qrS (.op 9 .now (.op 10 qpA (.op 11 qrB (.op 12 qpA (.op 13 .wu (.done)))))))))))))))))) (.reg qN2))))))) (.seq (.regD (.op 0 .now (.op 1 qpA (.op 2 .now (.op 3 (.rd (.one qcP)) (.op 4 .now (.op 5 .now (.op 6 .now (.op 7 .now (.op 8 qpA (.op 9 .now (.op 10 (.rd (.one qcI)) (.op 11 (.pu (.one qcS)) (.op 12 (.rd (.one (.agg [.int .i64,.int .i64]))) (.op 13 (.cl (.one qcI)) (.op 14 .now (.done))))))))))))))))) (.seq (.reg qN2) (.cond (.seq (.reg qN2) (.leaf)) (.leaf))))))))) (.reg qN2))))))) (.seq (.reg qN1) (.leaf))))))))
theorem mC_UpdateSpan.run(R:EPq)(v0:(Option Addr))(v1:Sl)(v2:Sl)(v3:(Int×Int×Unit))(w:World)(h:mC_UpdateSpan.M R v0 v1 v2 v3 w):Calls Tryz.prog 29 #[(.pointer v0),(.slice v1.base v1.len v1.cap),(.slice v2.base v2.len v2.cap),(.agg #[(.int .i64 v3.1),(.int .i64 v3.2.1)])] w R:=by
 refine aaZ ayZ Tryz.func29 (c:=mC_UpdateSpan.body) (by kernel_rfl) [.at (.int .i64)] (mC_UpdateSpan.ann R) 110 Tryz.ntmps29 [.tmp 8] (by kernel_rfl) (Nat.le_of_ble_eq_true (by kernel_rfl)) ?_ ?_
 ·exact⟨tv,⟨⟨tv,⟨⟨tv,tv⟩,tv⟩⟩,⟨fun s w=>mq,(show Region.noSelect _=true by kernel_rfl),⟨fun s w=>mq,⟨tv,⟨tv,tv⟩⟩,⟨⟨tv,⟨⟨tv,tv⟩,tv⟩⟩,⟨tv,⟨⟨tv,(fun k1=>⟨fun s w=>mq,⟨tv,⟨⟨tv,tv⟩,⟨⟨tv,⟨tv,⟨⟨tv,⟨tv,⟨⟨tv,tv⟩,tv⟩⟩⟩,⟨⟨tv,(fun k2=>⟨fun s w=>mq,⟨tv,⟨⟨tv,tv⟩,⟨⟨tv,tv⟩,tv⟩⟩⟩⟩)⟩,⟨(show Region.noSelect _=true by kernel_rfl),⟨tv,⟨⟨tv,tv⟩,tv⟩⟩⟩⟩⟩⟩⟩,tv⟩⟩⟩⟩)⟩,⟨tv,tv⟩⟩⟩⟩⟩⟩⟩⟩
 ·exact Eq.mp (show mC_UpdateSpan.M R v0 v1 v2 v3 w=_ by kernel_rfl) h
noncomputable def mC_Cached.body:Code:=(Tryz.f33.body).getD .skip
def mC_Cached.M(R:EPq)(v0:(Option Addr))(w:World):Prop:=
 Pu Tryz.prog (do eqGuard .eql 26 (.tmp 3) (.const (.pointer none)) (.pointer v0) (.pointer none);binOp .eql 26 (.pointer v0) (.pointer none)) (.one (.at .bool)) (fun(x1:Bool) w2=>
 Cd x1 (R (.returned (.int .i64 0)) w2) (Pu Tryz.prog (amZ v0) (.one (.at .addr)) (fun(x3:Addr) w4=>
 Rd Tryz.prog (Instr.loadAt 76 (.pointer (some (Addr.add x3 5)))) (.one (.at .ptr)) (fun(x5:(Option Addr)) w6=>
 Cl Tryz.prog 54 #[(.pointer x5)] (.one (.at (.int .i64))) (fun(x7:Int) w8=>
 R (.returned (.int .i64 x7)) w8) w6) w4) w2)) w
noncomputable def mC_Cached.ann(R:EPq):Ann:=
 .seq (.reg qN1) (.seq (.seq (.reg (.op 0 .now (.op 1 (.pu (.one (.at .bool))) (.done)))) (.cond (.seq (.reg qN1) (.leaf)) (.leaf))) (.seq (.reg (.op 0 .now (.op 1 qpA (.op 2 .now (.op 3 (.rd (.one qcP)) (.op 4 (.cl (.one qcI)) (.op 5 .now (.done)))))))) (.leaf)))
theorem mC_Cached.run(R:EPq)(v0:(Option Addr))(w:World)(h:mC_Cached.M R v0 w):Calls Tryz.prog 33 #[(.pointer v0)] w R:=by
 refine aaZ ayZ Tryz.func33 (c:=mC_Cached.body) (by kernel_rfl) [.at (.int .i64)] (mC_Cached.ann R) 10 Tryz.ntmps33 [.tmp 2] (by kernel_rfl) (Nat.le_of_ble_eq_true (by kernel_rfl)) ?_ ?_
 ·exact⟨tv,⟨⟨tv,⟨⟨tv,tv⟩,tv⟩⟩,⟨tv,tv⟩⟩⟩
 ·exact Eq.mp (show mC_Cached.M R v0 w=_ by kernel_rfl) h
noncomputable def mC_give.body:Code:=(Tryz.f39.body).getD .skip
def mC_give.j3(R:EPq)(k2:((Option Addr)×Sl×Bool×Int×Addr×Sl×Sl×Int×Int×Unit)→WPq)(v0:(Option Addr))(v1:Sl)(v2:Bool)(v7:Int)(v10:Addr)(v11:Sl)(t76:Sl)(t77:Int)(t78:Int)(w:World):Prop:=
 k2 (v0,v1,v2,v7,v10,v11,t76,t77,(IntKind.wrap .i64 (t78+1)),()) w
def mC_give.j4(R:EPq)(k2:((Option Addr)×Sl×Bool×Int×Addr×Sl×Sl×Int×Int×Unit)→WPq)(v0:(Option Addr))(v1:Sl)(v2:Bool)(v7:Int)(v10:Addr)(v11:Sl)(v14:Int)(v15:Int)(t76:Sl)(t77:Int)(t78:Int)(t91:Bool)(w:World):Prop:=
 Cd t91 (mC_give.j3 R k2 v0 v1 v2 v7 v10 v11 t76 t77 t78 w) (Wr Tryz.prog (Instr.makeSlice 24 (.int .i64 v7) (.int .i64 v7)) (.one (.at .sl)) (fun(x31:Sl) w32=>
 Held w32.drew (fun S33=>Pu Tryz.prog (amZ v0) (.one (.at .addr)) (fun(x34:Addr) w35=>
 RdS Tryz.prog S33 (Instr.loadAt 75 (.pointer (some (Addr.add x34 3)))) (.one (.at .ptr)) (fun(x36:(Option Addr)) w37=>
 RdS Tryz.prog S33 (Instr.loadAt 30 (.pointer (some (Addr.add v10 2)))) (.one (.at .sl)) (fun(x38:Sl) w39=>
 Pu Tryz.prog (Instr.indexAt 30 (.slice x38.base x38.len x38.cap) (.int .i64 v14)) (.one (.at .addr)) (fun(x40:Addr) w41=>
 RdS Tryz.prog S33 (Instr.loadAt 24 (.pointer (some x40))) (.one (.at .sl)) (fun(x42:Sl) w43=>
 Cl Tryz.prog 62 #[(.pointer x36),(.slice x42.base x42.len x42.cap),(.slice v11.base v11.len v11.cap),(.slice x31.base x31.len x31.cap)] (.one (.at (.int .i64))) (fun(x44:Int) w45=>
 S33 w45∧(Cd (x44 !=0) (R (.returned (.int .i64 x44)) w45) (Pu Tryz.prog (Instr.indexAt 30 (.slice v1.base v1.len v1.cap) (.int .i64 v15)) (.one (.at .addr)) (fun(x46:Addr) w47=>
 Wu Tryz.prog (Instr.storeAt 24 (.pointer (some x46)) (.slice x31.base x31.len x31.cap)) (fun w48=>
 mC_give.j3 R k2 v0 v1 v2 v7 v10 v11 t76 t77 t78 w48) w47) w45))) w43) w41) w39) w37) w35) w32.drew)) w)
def mC_give.b2(R:EPq)(k2:((Option Addr)×Sl×Bool×Int×Addr×Sl×Sl×Int×Int×Unit)→WPq)(v0:(Option Addr))(v1:Sl)(v2:Bool)(v7:Int)(v10:Addr)(v11:Sl)(t76:Sl)(t77:Int)(t78:Int)(w:World):Prop:=
 Cd (decide (t78<t77)) (Pu Tryz.prog (Instr.indexAt 25 (.slice t76.base t76.len t76.cap) (.int .i64 t78)) (.one (.at .addr)) (fun(x27:Addr) w28=>
 Rd Tryz.prog (Instr.loadAt 3 (.pointer (some x27))) (.one (.at (.int .i64))) (fun(x29:Int) w30=>
 Cd v2 (Pu Tryz.prog (amZ v0) (.one (.at .addr)) (fun(x49:Addr) w50=>
 Rd Tryz.prog (Instr.loadAt 3 (.pointer (some (Addr.add x49 1)))) (.one (.at (.int .i64))) (fun(x51:Int) w52=>
 mC_give.j4 R k2 v0 v1 v2 v7 v10 v11 t78 x29 t76 t77 t78 (decide (x29≥x51)) w52) w50) w30) (mC_give.j4 R k2 v0 v1 v2 v7 v10 v11 t78 x29 t76 t77 t78 false w30)) w28) w) (R (.returned (.int .i64 0)) w)
def mC_give.l2(R:EPq):((Option Addr)×Sl×Bool×Int×Addr×Sl×Sl×Int×Int×Unit)→World→Prop:=arZ (fun k2 s w=>mC_give.b2 R k2 s.1 s.2.1 s.2.2.1 s.2.2.2.1 s.2.2.2.2.1 s.2.2.2.2.2.1 s.2.2.2.2.2.2.1 s.2.2.2.2.2.2.2.1 s.2.2.2.2.2.2.2.2.1 w)
def mC_give.b1(R:EPq)(k1:((Option Addr)×Sl×Bool×Int×Addr×Sl×Sl×Int×Int×Unit)→WPq)(v0:(Option Addr))(v1:Sl)(v2:Bool)(v7:Int)(v10:Addr)(v11:Sl)(t60:Sl)(t61:Int)(t62:Int)(w:World):Prop:=
 Cd (decide (t62<t61)) (Pu Tryz.prog (Instr.indexAt 25 (.slice t60.base t60.len t60.cap) (.int .i64 t62)) (.one (.at .addr)) (fun(x14:Addr) w15=>
 Rd Tryz.prog (Instr.loadAt 3 (.pointer (some x14))) (.one (.at (.int .i64))) (fun(x16:Int) w17=>
 Pu Tryz.prog (Instr.indexAt 30 (.slice v1.base v1.len v1.cap) (.int .i64 x16)) (.one (.at .addr)) (fun(x18:Addr) w19=>
 Rd Tryz.prog (Instr.loadAt 24 (.pointer (some x18))) (.one (.at .sl)) (fun(x20:Sl) w21=>
 Pu Tryz.prog (Instr.indexAt 30 (.slice v11.base v11.len v11.cap) (.int .i64 t62)) (.one (.at .addr)) (fun(x22:Addr) w23=>
 Wu Tryz.prog (Instr.storeAt 24 (.pointer (some x22)) (.slice x20.base x20.len x20.cap)) (fun w24=>
 k1 (v0,v1,v2,v7,v10,v11,t60,t61,(IntKind.wrap .i64 (t62+1)),()) w24) w23) w21) w19) w17) w15) w) (Rd Tryz.prog (Instr.loadAt 25 (.pointer (some v10))) (.one (.at .sl)) (fun(x25:Sl) w26=>
 mC_give.l2 R (v0,v1,v2,v7,v10,v11,x25,((x25.len:Nat):Int),0,()) w26) w)
def mC_give.l1(R:EPq):((Option Addr)×Sl×Bool×Int×Addr×Sl×Sl×Int×Int×Unit)→World→Prop:=arZ (fun k1 s w=>mC_give.b1 R k1 s.1 s.2.1 s.2.2.1 s.2.2.2.1 s.2.2.2.2.1 s.2.2.2.2.2.1 s.2.2.2.2.2.2.1 s.2.2.2.2.2.2.2.1 s.2.2.2.2.2.2.2.2.1 w)
def mC_give.j2(R:EPq)(v0:(Option Addr))(v1:Sl)(v2:Bool)(v7:Int)(v8:Sl)(v9:Int)(t44:Bool)(w:World):Prop:=
 Cd t44 (R (.returned (.int .i64 v9)) w) (Cl Tryz.prog 22 #[(.pointer v0),(.slice v8.base v8.len v8.cap)] (.tup [.agg [.sl,.sl,.sl,.sl],.at (.int .i64)]) (fun x3 w4=>
 Wr Tryz.prog (Instr.alloc 49 true (.tuple #[])) (.one (.at .addr)) (fun(x5:Addr) w6=>
 Wu Tryz.prog (Instr.storeAt 49 (.pointer (some x5)) (.agg #[(.slice x3.1.1.base x3.1.1.len x3.1.1.cap),(.slice x3.1.2.1.base x3.1.2.1.len x3.1.2.1.cap),(.slice x3.1.2.2.1.base x3.1.2.2.1.len x3.1.2.2.1.cap),(.slice x3.1.2.2.2.1.base x3.1.2.2.2.1.len x3.1.2.2.2.1.cap)])) (fun w7=>
 Cd (x3.2.1 !=0) (R (.returned (.int .i64 x3.2.1)) w7) (Rd Tryz.prog (Instr.loadAt 25 (.pointer (some (Addr.add x5 1)))) (.one (.at .sl)) (fun(x8:Sl) w9=>
 Wr Tryz.prog (Instr.makeSlice 30 (.int .i64 ((x8.len:Nat):Int)) (.int .i64 ((x8.len:Nat):Int))) (.one (.at .sl)) (fun(x10:Sl) w11=>
 Rd Tryz.prog (Instr.loadAt 25 (.pointer (some (Addr.add x5 1)))) (.one (.at .sl)) (fun(x12:Sl) w13=>
 mC_give.l1 R (v0,v1,v2,v7,x5,x10,x12,((x12.len:Nat):Int),0,()) w13) w11) w9) w7)) w6) w4) w)
def mC_give.j1(R:EPq)(v0:(Option Addr))(v1:Sl)(v2:Bool)(v7:Int)(v8:Sl)(v9:Int)(w:World):Prop:=
 Cd (v9 !=0) (mC_give.j2 R v0 v1 v2 v7 v8 v9 true w) (mC_give.j2 R v0 v1 v2 v7 v8 v9 (((v8.len:Nat):Int)==0) w)
def mC_give.M(R:EPq)(v0:(Option Addr))(v1:Sl)(v2:Bool)(w:World):Prop:=
 Pu Tryz.prog (do eqGuard .eql 26 (.tmp 18) (.const (.pointer none)) (.pointer v0) (.pointer none);binOp .eql 26 (.pointer v0) (.pointer none)) (.one (.at .bool)) (fun(x1:Bool) w2=>
 Cd x1 (R (.returned (.int .i64 1)) w2) (Held w2.drew (fun S53=>Pu Tryz.prog (amZ v0) (.one (.at .addr)) (fun(x54:Addr) w55=>
 RdS Tryz.prog S53 (Instr.loadAt 69 (.pointer (some x54))) (.one (.at (.int .i64))) (fun(x56:Int) w57=>
 Pu Tryz.prog (amZ v0) (.one (.at .addr)) (fun(x58:Addr) w59=>
 RdS Tryz.prog S53 (Instr.loadAt 3 (.pointer (some (Addr.add x58 1)))) (.one (.at (.int .i64))) (fun(x60:Int) w61=>
 Pu Tryz.prog (amZ v0) (.one (.at .addr)) (fun(x62:Addr) w63=>
 RdS Tryz.prog S53 (Instr.loadAt 3 (.pointer (some (Addr.add x62 2)))) (.one (.at (.int .i64))) (fun(x64:Int) w65=>
 Cl Tryz.prog 61 #[(.int .i64 x56),(.int .i64 x60),(.int .i64 x64),(.slice v1.base v1.len v1.cap)] (.tup [.at (.int .i64),.at .sl,.at (.int .i64)]) (fun x66 w67=>
 S53 w67∧(mC_give.j1 R v0 v1 v2 x66.1 x66.2.1 x66.2.2.1 w67)) w65) w63) w61) w59) w57) w55) w2.drew))) w
noncomputable def mC_give.ann(R:EPq):Ann:=
 .seq (.reg qN1) (.seq (.seq (.reg (.op 0 .now (.op 1 (.pu (.one (.at .bool))) (.done)))) (.cond (.seq (.reg qN1) (.leaf)) (.leaf))) (.join [(0,qcP),(1,qcS),(2,.at .bool),(7,qcI),(8,qcS),(9,qcI)] (fun s w=>mC_give.j1 R s.1 s.2.1 s.2.2.1 s.2.2.2.1 s.2.2.2.2.1 s.2.2.2.2.2.1 w) (.regD (.op 0 .now (.op 1 qpA (.op 2 .now (.op 3 (.rd (.one qcI)) (.op 4 .now (.op 5 qpA (.op 6 .now (.op 7 (.rd (.one qcI)) (.op 8 .now (.op 9 qpA (.op 10 .now (.op 11 (.rd (.one qcI)) (.op 12 .now (.op 13 (.cl (.tup [.at (.int .i64),.at .sl,.at (.int .i64)])) (.op 14 .now (.op 15 .now (.op 16 .now (.op 17 .now (.op 18 .now (.op 19 .now (.op 20 .now (.done))))))))))))))))))))))) (.seq (.join [(0,qcP),(1,qcS),(2,.at .bool),(7,qcI),(8,qcS),(9,qcI),(44,.at .bool)] (fun s w=>mC_give.j2 R s.1 s.2.1 s.2.2.1 s.2.2.2.1 s.2.2.2.2.1 s.2.2.2.2.2.1 s.2.2.2.2.2.2.1 w) (.reg (.op 0 .now (.op 1 .now (.op 2 .now (.split 2 (.skip 3 (.skip 4 (.skip 5 (.op 6 .now (.done))))) (.op 3 .now (.op 4 .now (.op 5 .now (.op 6 .now (.done)))))))))) (.cond (.seq (.reg qN2) (.leaf)) (.leaf))) (.seq (.reg (.op 0 .now (.op 1 .now (.op 2 (.cl (.tup [.agg [.sl,.sl,.sl,.sl],.at (.int .i64)])) (.op 3 .now (.op 4 .now (.op 5 .now (.op 6 (.wr (.one (.at .addr))) (.op 7 .wu (.op 8 .now (.done))))))))))) (.seq (.seq (.reg qN2) (.cond (.seq (.reg qN2) (.leaf)) (.leaf))) (.seq (.reg (.op 0 .now (.op 1 qrS (.op 2 .now (.op 3 (.wr (.one qcS)) (.op 4 .now (.done))))))) (.seq (.seq (.reg (.op 0 .now (.op 1 qrS (.op 2 .now (.op 3 .now (.done)))))) (.block (.loop [(0,qcP),(1,qcS),(2,.at .bool),(7,qcI),(10,.at .addr),(11,qcS),(60,qcS),(61,qcI),(62,qcI)] (fun k1 s w=>mC_give.b1 R k1 s.1 s.2.1 s.2.2.1 s.2.2.2.1 s.2.2.2.2.1 s.2.2.2.2.2.1 s.2.2.2.2.2.2.1 s.2.2.2.2.2.2.2.1 s.2.2.2.2.2.2.2.2.1 w) (fun k1=>.seq (.reg qN1) (.seq (.cond (.leaf) (.leaf)) (.seq (.block (.seq (.reg (.op 0 .now (.op 1 qpA (.op 2 (.rd (.one qcI)) (.op 3 .now (.op 4 .now (.done))))))) (.reg (.op 0 .now (.op 1 .now (.op 2 .now (.op 3 .now (.op 4 qpA (.op 5 qrS (.op 6 qpA (.op 7 .wu (.done)))))))))))) (.reg qN2))))))) (.seq (.seq (.reg (.op 0 .now (.op 1 qrS (.op 2 .now (.op 3 .now (.done)))))) (.block (.loop [(0,qcP),(1,qcS),(2,.at .bool),(7,qcI),(10,.at .addr),(11,qcS),(76,qcS),(77,qcI),(78,qcI)] (fun k2 s w=>mC_give.b2 R k2 s.1 s.2.1 s.2.2.1 s.2.2.2.1 s.2.2.2.2.1 s.2.2.2.2.2.1 s.2.2.2.2.2.2.1 s.2.2.2.2.2.2.2.1 s.2.2.2.2.2.2.2.2.1 w) (fun k2=>.seq (.reg qN1) (.seq (.cond (.leaf) (.leaf)) (.join [(0,qcP),(1,qcS),(2,.at .bool),(7,qcI),(10,.at .addr),(11,qcS),(76,qcS),(77,qcI),(78,qcI)] (fun s w=>mC_give.j3 R k2 s.1 s.2.1 s.2.2.1 s.2.2.2.1 s.2.2.2.2.1 s.2.2.2.2.2.1 s.2.2.2.2.2.2.1 s.2.2.2.2.2.2.2.1 s.2.2.2.2.2.2.2.2.1 w) (.block (.seq (.reg (.op 0 .now (.op 1 qpA (.op 2 (.rd (.one qcI)) (.op 3 .now (.op 4 .now (.done))))))) (.seq (.join [(0,qcP),(1,qcS),(2,.at .bool),(7,qcI),(10,.at .addr),(11,qcS),(14,qcI),(15,qcI),(76,qcS),(77,qcI),(78,qcI),(91,.at .bool)] (fun s w=>mC_give.j4 R k2 s.1 s.2.1 s.2.2.1 s.2.2.2.1 s.2.2.2.2.1 s.2.2.2.2.2.1 s.2.2.2.2.2.2.1 s.2.2.2.2.2.2.2.1 s.2.2.2.2.2.2.2.2.1 s.2.2.2.2.2.2.2.2.2.1 s.2.2.2.2.2.2.2.2.2.2.1 s.2.2.2.2.2.2.2.2.2.2.2.1 w) (.reg (.op 0 .now (.op 1 .now (.split 1 (.op 2 .now (.op 3 .now (.op 4 qpA (.op 5 .now (.op 6 (.rd (.one qcI)) (.op 7 .now (.op 8 .now (.done)))))))) (.skip 2 (.skip 3 (.skip 4 (.skip 5 (.skip 6 (.skip 7 (.op 8 .now (.done)))))))))))) (.cond (.leaf) (.leaf))) (.seq (.reg (.op 0 .now (.op 1 (.wr (.one qcS)) (.op 2 .now (.done))))) (.seq (.seq (.regD (.op 0 .now (.op 1 qpA (.op 2 .now (.op 3 (.rd (.one qcP)) (.op 4 .now (.op 5 qrS (.op 6 .now (.op 7 qpA (.op 8 qrS (.op 9 .now (.op 10 .now (.op 11 (.cl (.one qcI)) (.op 12 .now (.done))))))))))))))) (.seq (.reg qN2) (.cond (.seq (.reg qN2) (.leaf)) (.leaf)))) (.reg (.op 0 .now (.op 1 .now (.op 2 .now (.op 3 qpA (.op 4 .wu (.done)))))))))))) (.reg qN2))))))) (.seq (.reg qN1) (.leaf))))))))))
theorem mC_give.run(R:EPq)(v0:(Option Addr))(v1:Sl)(v2:Bool)(w:World)(h:mC_give.M R v0 v1 v2 w):Calls Tryz.prog 39 #[(.pointer v0),(.slice v1.base v1.len v1.cap),(.bool v2)] w R:=by
 refine aaZ ayZ Tryz.func39 (c:=mC_give.body) (by kernel_rfl) [.at (.int .i64)] (mC_give.ann R) 114 Tryz.ntmps39 [.tmp 6] (by kernel_rfl) (Nat.le_of_ble_eq_true (by kernel_rfl)) ?_ ?_
 ·exact⟨tv,⟨⟨tv,⟨⟨tv,tv⟩,tv⟩⟩,⟨fun s w=>mq,(show Region.noSelect _=true by kernel_rfl),⟨⟨fun s w=>mq,tv,⟨⟨tv,tv⟩,tv⟩⟩,⟨tv,⟨⟨tv,⟨⟨tv,tv⟩,tv⟩⟩,⟨tv,⟨⟨tv,(fun k1=>⟨fun s w=>mq,⟨tv,⟨⟨tv,tv⟩,⟨⟨tv,tv⟩,tv⟩⟩⟩⟩)⟩,⟨⟨tv,(fun k2=>⟨fun s w=>mq,⟨tv,⟨⟨tv,tv⟩,⟨fun s w=>mq,⟨tv,⟨⟨fun s w=>mq,tv,⟨tv,tv⟩⟩,⟨tv,⟨⟨(show Region.noSelect _=true by kernel_rfl),⟨tv,⟨⟨tv,tv⟩,tv⟩⟩⟩,tv⟩⟩⟩⟩,tv⟩⟩⟩⟩)⟩,⟨tv,tv⟩⟩⟩⟩⟩⟩⟩⟩⟩⟩
 ·exact Eq.mp (show mC_give.M R v0 v1 v2 w=_ by kernel_rfl) h
noncomputable def mC_rising.body:Code:=(Tryz.f40.body).getD .skip
def mC_rising.j1(R:EPq)(k1:((Option Addr)×Sl×Sl×Int×Int×Unit)→WPq)(v0:(Option Addr))(v1:Sl)(t7:Sl)(t8:Int)(t9:Int)(t41:Bool)(w:World):Prop:=
 Cd t41 (R (.returned (.bool false)) w) (k1 (v0,v1,t7,t8,(IntKind.wrap .i64 (t9+1)),()) w)
def mC_rising.b1(R:EPq)(k1:((Option Addr)×Sl×Sl×Int×Int×Unit)→WPq)(v0:(Option Addr))(v1:Sl)(t7:Sl)(t8:Int)(t9:Int)(w:World):Prop:=
 Cd (decide (t9<t8)) (Pu Tryz.prog (Instr.indexAt 25 (.slice t7.base t7.len t7.cap) (.int .i64 t9)) (.one (.at .addr)) (fun(x1:Addr) w2=>
 Rd Tryz.prog (Instr.loadAt 3 (.pointer (some x1))) (.one (.at (.int .i64))) (fun(x3:Int) w4=>
 Cd (decide (x3<0)) (mC_rising.j1 R k1 v0 v1 t7 t8 t9 true w4.drew) (Pu Tryz.prog (amZ v0) (.one (.at .addr)) (fun(x5:Addr) w6=>
 RdS Tryz.prog (Same w4.drew) (Instr.loadAt 3 (.pointer (some (Addr.add x5 1)))) (.one (.at (.int .i64))) (fun(x7:Int) w8=>
 Pu Tryz.prog (amZ v0) (.one (.at .addr)) (fun(x9:Addr) w10=>
 RdS Tryz.prog (Same w4.drew) (Instr.loadAt 3 (.pointer (some (Addr.add x9 2)))) (.one (.at (.int .i64))) (fun(x11:Int) w12=>
 Cd (decide (x3≥(IntKind.wrap .i64 (x7+x11)))) (mC_rising.j1 R k1 v0 v1 t7 t8 t9 true w12) (Cd (decide (t9>0)) (Pu Tryz.prog (Instr.indexAt 25 (.slice v1.base v1.len v1.cap) (.int .i64 (IntKind.wrap .i64 (t9-1)))) (.one (.at .addr)) (fun(x13:Addr) w14=>
 RdS Tryz.prog (Same w4.drew) (Instr.loadAt 3 (.pointer (some x13))) (.one (.at (.int .i64))) (fun(x15:Int) w16=>
 mC_rising.j1 R k1 v0 v1 t7 t8 t9 (decide (x3≤x15)) w16) w14) w12) (mC_rising.j1 R k1 v0 v1 t7 t8 t9 false w12))) w10) w8) w6) w4.drew)) w2) w) (R (.returned (.bool true)) w)
def mC_rising.l1(R:EPq):((Option Addr)×Sl×Sl×Int×Int×Unit)→World→Prop:=arZ (fun k1 s w=>mC_rising.b1 R k1 s.1 s.2.1 s.2.2.1 s.2.2.2.1 s.2.2.2.2.1 w)
def mC_rising.M(R:EPq)(v0:(Option Addr))(v1:Sl)(w:World):Prop:=
 mC_rising.l1 R (v0,v1,v1,((v1.len:Nat):Int),0,()) w
noncomputable def mC_rising.ann(R:EPq):Ann:=
 .seq (.reg qN1) (.seq (.seq (.reg qN3) (.block (.loop [(0,qcP),(1,qcS),(7,qcS),(8,qcI),(9,qcI)] (fun k1 s w=>mC_rising.b1 R k1 s.1 s.2.1 s.2.2.1 s.2.2.2.1 s.2.2.2.2.1 w) (fun k1=>.seq (.reg qN1) (.seq (.cond (.leaf) (.leaf)) (.seq (.block (.seq (.reg (.op 0 .now (.op 1 qpA (.op 2 (.rd (.one qcI)) (.op 3 .now (.op 4 .now (.done))))))) (.join [(0,qcP),(1,qcS),(7,qcS),(8,qcI),(9,qcI),(41,.at .bool)] (fun s w=>mC_rising.j1 R k1 s.1 s.2.1 s.2.2.1 s.2.2.2.1 s.2.2.2.2.1 s.2.2.2.2.2.1 w) (.regQ (.op 0 .now (.op 1 .now (.op 2 .now (.split 2 (.skip 3 (.skip 4 (.skip 5 (.skip 6 (.skip 7 (.skip 8 (.skip 9 (.skip 10 (.skip 11 (.skip 12 (.skip 13 (.op 14 .now (.op 15 .now (.skip 16 (.skip 17 (.skip 18 (.skip 19 (.skip 20 (.skip 21 (.skip 22 (.skip 23 (.skip 24 (.skip 25 (.skip 26 (.op 27 .now (.done)))))))))))))))))))))))))) (.op 3 .now (.op 4 .now (.op 5 qpA (.op 6 .now (.op 7 (.rd (.one qcI)) (.op 8 .now (.op 9 qpA (.op 10 .now (.op 11 (.rd (.one qcI)) (.op 12 .now (.op 13 .now (.op 14 .now (.op 15 .now (.split 15 (.skip 16 (.skip 17 (.skip 18 (.skip 19 (.skip 20 (.skip 21 (.skip 22 (.skip 23 (.skip 24 (.skip 25 (.skip 26 (.op 27 .now (.done))))))))))))) (.op 16 .now (.op 17 .now (.op 18 .now (.split 18 (.op 19 .now (.op 20 .now (.op 21 .now (.op 22 .now (.op 23 qpA (.op 24 (.rd (.one qcI)) (.op 25 .now (.op 26 .now (.op 27 .now (.done)))))))))) (.skip 19 (.skip 20 (.skip 21 (.skip 22 (.skip 23 (.skip 24 (.skip 25 (.op 26 .now (.op 27 .now (.done))))))))))))))))))))))))))))))))) (.cond (.seq (.reg qN1) (.leaf)) (.leaf))))) (.reg qN2))))))) (.seq (.reg qN1) (.leaf)))
theorem mC_rising.run(R:EPq)(v0:(Option Addr))(v1:Sl)(w:World)(h:mC_rising.M R v0 v1 w):Calls Tryz.prog 40 #[(.pointer v0),(.slice v1.base v1.len v1.cap)] w R:=by
 refine aaZ ayZ Tryz.func40 (c:=mC_rising.body) (by kernel_rfl) [.at .bool] (mC_rising.ann R) 43 Tryz.ntmps40 [.tmp 4] (by kernel_rfl) (Nat.le_of_ble_eq_true (by kernel_rfl)) ?_ ?_
 ·exact⟨tv,⟨⟨tv,(fun k1=>⟨fun s w=>mq,⟨tv,⟨⟨tv,tv⟩,⟨⟨tv,⟨fun s w=>mq,(show Region.noSelect _=true by kernel_rfl),⟨⟨tv,tv⟩,tv⟩⟩⟩,tv⟩⟩⟩⟩)⟩,⟨tv,tv⟩⟩⟩
 ·exact Eq.mp (show mC_rising.M R v0 v1 w=_ by kernel_rfl) h
noncomputable def trie_Trie_Get.body:Code:=(Tryz.f42.body).getD .skip
def trie_Trie_Get.M(R:EPq)(v0:(Option Addr))(v1:Sl)(w:World):Prop:=
 Cl Tryz.prog 64 #[(.pointer v0),(.slice v1.base v1.len v1.cap)] (.one (.at .ptr)) (fun(x1:(Option Addr)) w2=>
 Pu Tryz.prog (do eqGuard .eql 118 (.tmp 10) (.const (.pointer none)) (.pointer x1) (.pointer none);binOp .eql 118 (.pointer x1) (.pointer none)) (.one (.at .bool)) (fun(x3:Bool) w4=>
 Cd x3 (R (.returned (.tuple #[(.slice none 0 0),(.bool false)])) w4) (Cl Tryz.prog 65 #[(.pointer v0),(.pointer x1)] (.tup []) (fun x5 w6=>
 Pu Tryz.prog (amZ x1) (.one (.at .addr)) (fun(x7:Addr) w8=>
 Rd Tryz.prog (Instr.loadAt 30 (.pointer (some (Addr.add x7 2)))) (.one (.at .sl)) (fun(x9:Sl) w10=>
 Cl Tryz.prog 66 #[(.slice x9.base x9.len x9.cap)] (.one (.at .sl)) (fun(x11:Sl) w12=>
 R (.returned (.tuple #[(.slice x11.base x11.len x11.cap),(.bool true)])) w12) w10) w8) w6) w4)) w2) w
noncomputable def trie_Trie_Get.ann(R:EPq):Ann:=
 .seq (.reg qN2) (.seq (.reg (.op 0 .now (.op 1 .now (.op 2 (.cl (.one qcP)) (.op 3 .now (.done)))))) (.seq (.seq (.reg (.op 0 .now (.op 1 (.pu (.one (.at .bool))) (.done)))) (.cond (.seq (.reg qN2) (.leaf)) (.leaf))) (.seq (.reg (.op 0 .now (.op 1 .now (.op 2 (.cl (.tup [])) (.done))))) (.seq (.reg (.op 0 .now (.op 1 qpA (.op 2 .now (.op 3 qrS (.op 4 (.cl (.one qcS)) (.op 5 .now (.op 6 .now (.done))))))))) (.leaf)))))
theorem trie_Trie_Get.run(R:EPq)(v0:(Option Addr))(v1:Sl)(w:World)(h:trie_Trie_Get.M R v0 v1 w):Calls Tryz.prog 42 #[(.pointer v0),(.slice v1.base v1.len v1.cap)] w R:=by
 refine aaZ ayZ Tryz.func42 (c:=trie_Trie_Get.body) (by kernel_rfl) [.at .sl,.at .bool] (trie_Trie_Get.ann R) 20 Tryz.ntmps42 [.tmp 4,.tmp 5] (by kernel_rfl) (Nat.le_of_ble_eq_true (by kernel_rfl)) ?_ ?_
 ·exact⟨tv,⟨tv,⟨⟨tv,⟨⟨tv,tv⟩,tv⟩⟩,⟨tv,⟨tv,tv⟩⟩⟩⟩⟩
 ·exact Eq.mp (show trie_Trie_Get.M R v0 v1 w=_ by kernel_rfl) h
noncomputable def trie_Trie_Put.body:Code:=(Tryz.f44.body).getD .skip
def trie_Trie_Put.j2(R:EPq)(k1:((Option Addr)×Sl×(Option Addr)×Sl×Int×Int×Unit)→WPq)(v0:(Option Addr))(v2:Sl)(v11:(Option Addr))(t51:Sl)(t52:Int)(t53:Int)(w:World):Prop:=
 k1 (v0,v2,v11,t51,t52,(IntKind.wrap .i64 (t53+1)),()) w
def trie_Trie_Put.j3(R:EPq)(v0:(Option Addr))(v2:Sl)(v8:(Option Addr))(w:World):Prop:=
 Cl Tryz.prog 66 #[(.slice v2.base v2.len v2.cap)] (.one (.at .sl)) (fun(x34:Sl) w35=>
 Pu Tryz.prog (amZ v8) (.one (.at .addr)) (fun(x36:Addr) w37=>
 Wu Tryz.prog (Instr.storeAt 4 (.pointer (some (Addr.add x36 1))) (.bool true)) (fun w38=>
 Pu Tryz.prog (amZ v8) (.one (.at .addr)) (fun(x39:Addr) w40=>
 Wu Tryz.prog (Instr.storeAt 30 (.pointer (some (Addr.add x39 2))) (.slice x34.base x34.len x34.cap)) (fun w41=>
 Cl Tryz.prog 65 #[(.pointer v0),(.pointer v8)] (.tup []) (fun x42 w43=>
 R (.returned (.int .i64 0)) w43) w41) w40) w38) w37) w35) w
def trie_Trie_Put.b1(R:EPq)(k1:((Option Addr)×Sl×(Option Addr)×Sl×Int×Int×Unit)→WPq)(v0:(Option Addr))(v2:Sl)(v8:(Option Addr))(t51:Sl)(t52:Int)(t53:Int)(w:World):Prop:=
 Cd (decide (t53<t52)) (Pu Tryz.prog (Instr.indexAt 25 (.slice t51.base t51.len t51.cap) (.int .i64 t53)) (.one (.at .addr)) (fun(x15:Addr) w16=>
 Rd Tryz.prog (Instr.loadAt 3 (.pointer (some x15))) (.one (.at (.int .i64))) (fun(x17:Int) w18=>
 Pu Tryz.prog (amZ v8) (.one (.at .addr)) (fun(x19:Addr) w20=>
 Rd Tryz.prog (Instr.loadAt 121 (.pointer (some x19))) (.one (.at .map)) (fun(x21:(Option Nat)) w22=>
 Rd Tryz.prog (Instr.lookup 121 (.map x21) (.int .i64 x17) false) (.one (.at .ptr)) (fun(x23:(Option Addr)) w24=>
 Pu Tryz.prog (do eqGuard .eql 118 (.tmp 63) (.const (.pointer none)) (.pointer x23) (.pointer none);binOp .eql 118 (.pointer x23) (.pointer none)) (.one (.at .bool)) (fun(x25:Bool) w26=>
 Cd x25 (Cl Tryz.prog 74 #[] (.one (.at .ptr)) (fun(x27:(Option Addr)) w28=>
 Pu Tryz.prog (amZ v8) (.one (.at .addr)) (fun(x29:Addr) w30=>
 Rd Tryz.prog (Instr.loadAt 121 (.pointer (some x29))) (.one (.at .map)) (fun(x31:(Option Nat)) w32=>
 Wu Tryz.prog (Instr.mapUpdate 121 (.map x31) (.int .i64 x17) (.pointer x27)) (fun w33=>
 trie_Trie_Put.j2 R k1 v0 v2 x27 t51 t52 t53 w33) w32) w30) w28) w26) (trie_Trie_Put.j2 R k1 v0 v2 x23 t51 t52 t53 w26)) w24) w22) w20) w18) w16) w) (Pu Tryz.prog (amZ v8) (.one (.at .addr)) (fun(x44:Addr) w45=>
 Rd Tryz.prog (Instr.loadAt 4 (.pointer (some (Addr.add x44 1)))) (.one (.at .bool)) (fun(x46:Bool) w47=>
 Cd (!x46) (Pu Tryz.prog (amZ v0) (.one (.at .addr)) (fun(x48:Addr) w49=>
 Rd Tryz.prog (Instr.loadAt 3 (.pointer (some (Addr.add x48 2)))) (.one (.at (.int .i64))) (fun(x50:Int) w51=>
 Pu Tryz.prog (amZ v0) (.one (.at .addr)) (fun(x52:Addr) w53=>
 Wu Tryz.prog (Instr.storeAt 3 (.pointer (some (Addr.add x52 2))) (.int .i64 (IntKind.wrap .i64 (x50+1)))) (fun w54=>
 trie_Trie_Put.j3 R v0 v2 v8 w54) w53) w51) w49) w47) (trie_Trie_Put.j3 R v0 v2 v8 w47)) w45) w)
def trie_Trie_Put.l1(R:EPq):((Option Addr)×Sl×(Option Addr)×Sl×Int×Int×Unit)→World→Prop:=arZ (fun k1 s w=>trie_Trie_Put.b1 R k1 s.1 s.2.1 s.2.2.1 s.2.2.2.1 s.2.2.2.2.1 s.2.2.2.2.2.1 w)
def trie_Trie_Put.j1(R:EPq)(v0:(Option Addr))(v1:Sl)(v2:Sl)(w:World):Prop:=
 Pu Tryz.prog (amZ v0) (.one (.at .addr)) (fun(x11:Addr) w12=>
 Rd Tryz.prog (Instr.loadAt 118 (.pointer (some x11))) (.one (.at .ptr)) (fun(x13:(Option Addr)) w14=>
 trie_Trie_Put.l1 R (v0,v2,x13,v1,((v1.len:Nat):Int),0,()) w14) w12) w
def trie_Trie_Put.j4(R:EPq)(v0:(Option Addr))(v1:Sl)(v2:Sl)(t36:Bool)(w:World):Prop:=
 Cd t36 (Cl Tryz.prog 72 #[(.pointer v0)] (.one (.at .sl)) (fun(x55:Sl) w56=>
 Pu Tryz.prog (Instr.indexAt 53 (.slice x55.base x55.len x55.cap) (.int .i64 (IntKind.wrap .i64 (((x55.len:Nat):Int)-1)))) (.one (.at .addr)) (fun(x57:Addr) w58=>
 Rd Tryz.prog (Instr.loadAt 25 (.pointer (some x57))) (.one (.at .sl)) (fun(x59:Sl) w60=>
 Cl Tryz.prog 73 #[(.pointer v0),(.slice x59.base x59.len x59.cap)] (.one (.at .bool)) (fun(x61:Bool) w62=>
 trie_Trie_Put.j1 R v0 v1 v2 w62) w60) w58) w56) w) (trie_Trie_Put.j1 R v0 v1 v2 w)
def trie_Trie_Put.M(R:EPq)(v0:(Option Addr))(v1:Sl)(v2:Sl)(w:World):Prop:=
 Pu Tryz.prog (do eqGuard .eql 76 (.tmp 12) (.const (.pointer none)) (.pointer v0) (.pointer none);binOp .eql 76 (.pointer v0) (.pointer none)) (.one (.at .bool)) (fun(x1:Bool) w2=>
 Cd x1 (R (.returned (.int .i64 1)) w2) (Cl Tryz.prog 71 #[(.slice v1.base v1.len v1.cap)] (.one (.at .bool)) (fun(x3:Bool) w4=>
 Cd (!x3) (R (.returned (.int .i64 120)) w4) (Pu Tryz.prog (amZ v0) (.one (.at .addr)) (fun(x5:Addr) w6=>
 Rd Tryz.prog (Instr.loadAt 118 (.pointer (some x5))) (.one (.at .ptr)) (fun(x7:(Option Addr)) w8=>
 Pu Tryz.prog (do eqGuard .eql 118 (.tmp 20) (.const (.pointer none)) (.pointer x7) (.pointer none);binOp .eql 118 (.pointer x7) (.pointer none)) (.one (.at .bool)) (fun(x9:Bool) w10=>
 Cd x9 (R (.returned (.int .i64 0)) w10) (Held w10.drew (fun S63=>Cl Tryz.prog 64 #[(.pointer v0),(.slice v1.base v1.len v1.cap)] (.one (.at .ptr)) (fun(x64:(Option Addr)) w65=>
 S63 w65∧(Pu Tryz.prog (do eqGuard .eql 118 (.tmp 24) (.const (.pointer none)) (.pointer x64) (.pointer none);binOp .eql 118 (.pointer x64) (.pointer none)) (.one (.at .bool)) (fun(x66:Bool) w67=>
 Cd x66 (Pu Tryz.prog (amZ v0) (.one (.at .addr)) (fun(x68:Addr) w69=>
 RdS Tryz.prog S63 (Instr.loadAt 3 (.pointer (some (Addr.add x68 2)))) (.one (.at (.int .i64))) (fun(x70:Int) w71=>
 Pu Tryz.prog (amZ v0) (.one (.at .addr)) (fun(x72:Addr) w73=>
 RdS Tryz.prog S63 (Instr.loadAt 3 (.pointer (some (Addr.add x72 1)))) (.one (.at (.int .i64))) (fun(x74:Int) w75=>
 trie_Trie_Put.j4 R v0 v1 v2 (decide (x70≥x74)) w75) w73) w71) w69) w67) (trie_Trie_Put.j4 R v0 v1 v2 false w67)) w65)) w10.drew))) w8) w6) w4)) w2)) w
noncomputable def trie_Trie_Put.ann(R:EPq):Ann:=
 .seq (.reg qN1) (.seq (.seq (.reg (.op 0 .now (.op 1 (.pu (.one (.at .bool))) (.done)))) (.cond (.seq (.reg qN1) (.leaf)) (.leaf))) (.seq (.seq (.reg (.op 0 .now (.op 1 (.cl (.one (.at .bool))) (.op 2 .now (.done))))) (.cond (.seq (.reg qN1) (.leaf)) (.leaf))) (.seq (.seq (.reg (.op 0 .now (.op 1 qpA (.op 2 .now (.op 3 (.rd (.one qcP)) (.op 4 (.pu (.one (.at .bool))) (.done))))))) (.cond (.seq (.reg qN1) (.leaf)) (.leaf))) (.join [(0,qcP),(1,qcS),(2,qcS)] (fun s w=>trie_Trie_Put.j1 R s.1 s.2.1 s.2.2.1 w) (.join [(0,qcP),(1,qcS),(2,qcS),(36,.at .bool)] (fun s w=>trie_Trie_Put.j4 R s.1 s.2.1 s.2.2.1 s.2.2.2.1 w) (.regD (.op 0 .now (.op 1 .now (.op 2 (.cl (.one qcP)) (.op 3 (.pu (.one (.at .bool))) (.op 4 .now (.split 4 (.op 5 .now (.op 6 qpA (.op 7 .now (.op 8 (.rd (.one qcI)) (.op 9 .now (.op 10 qpA (.op 11 .now (.op 12 (.rd (.one qcI)) (.op 13 .now (.op 14 .now (.done))))))))))) (.skip 5 (.skip 6 (.skip 7 (.skip 8 (.skip 9 (.skip 10 (.skip 11 (.skip 12 (.skip 13 (.op 14 .now (.done)))))))))))))))))) (.cond (.seq (.reg (.op 0 .now (.op 1 (.cl (.one qcS)) (.op 2 .now (.done))))) (.reg (.op 0 .now (.op 1 .now (.op 2 .now (.op 3 .now (.op 4 .now (.op 5 qpA (.op 6 qrS (.op 7 (.cl (.one (.at .bool))) (.done))))))))))) (.leaf))) (.seq (.reg (.op 0 .now (.op 1 qpA (.op 2 .now (.op 3 (.rd (.one qcP)) (.op 4 .now (.done))))))) (.seq (.seq (.reg qN3) (.block (.loop [(0,qcP),(2,qcS),(8,qcP),(51,qcS),(52,qcI),(53,qcI)] (fun k1 s w=>trie_Trie_Put.b1 R k1 s.1 s.2.1 s.2.2.1 s.2.2.2.1 s.2.2.2.2.1 s.2.2.2.2.2.1 w) (fun k1=>.seq (.reg qN1) (.seq (.cond (.leaf) (.leaf)) (.seq (.block (.seq (.reg (.op 0 qpA (.op 1 (.rd (.one qcI)) (.op 2 .now (.done))))) (.seq (.reg (.op 0 .now (.op 1 qpA (.op 2 .now (.op 3 (.rd (.one (.at .map))) (.op 4 .now (.op 5 (.rd (.one qcP)) (.op 6 .now (.done))))))))) (.join [(0,qcP),(2,qcS),(11,qcP),(51,qcS),(52,qcI),(53,qcI)] (fun s w=>trie_Trie_Put.j2 R k1 s.1 s.2.1 s.2.2.1 s.2.2.2.1 s.2.2.2.2.1 s.2.2.2.2.2.1 w) (.seq (.reg (.op 0 .now (.op 1 (.pu (.one (.at .bool))) (.done)))) (.cond (.seq (.reg (.op 0 (.cl (.one qcP)) (.op 1 .now (.done)))) (.reg (.op 0 .now (.op 1 qpA (.op 2 .now (.op 3 (.rd (.one (.at .map))) (.op 4 .now (.op 5 .now (.op 6 .wu (.done)))))))))) (.leaf))) (.reg qN2))))) (.reg qN2))))))) (.join [(0,qcP),(2,qcS),(8,qcP)] (fun s w=>trie_Trie_Put.j3 R s.1 s.2.1 s.2.2.1 w) (.seq (.reg (.op 0 .now (.op 1 qpA (.op 2 .now (.op 3 (.rd (.one (.at .bool))) (.op 4 .now (.done))))))) (.cond (.reg (.op 0 .now (.op 1 qpA (.op 2 .now (.op 3 (.rd (.one qcI)) (.op 4 .now (.op 5 qpA (.op 6 .now (.op 7 .wu (.done)))))))))) (.leaf))) (.seq (.reg (.op 0 .now (.op 1 .now (.op 2 .now (.op 3 (.cl (.one qcS)) (.op 4 qpA (.op 5 .now (.op 6 .wu (.op 7 qpA (.op 8 .now (.op 9 .wu (.done)))))))))))) (.seq (.reg (.op 0 .now (.op 1 .now (.op 2 (.cl (.tup [])) (.done))))) (.seq (.reg qN1) (.leaf)))))))))))
theorem trie_Trie_Put.run(R:EPq)(v0:(Option Addr))(v1:Sl)(v2:Sl)(w:World)(h:trie_Trie_Put.M R v0 v1 v2 w):Calls Tryz.prog 44 #[(.pointer v0),(.slice v1.base v1.len v1.cap),(.slice v2.base v2.len v2.cap)] w R:=by
 refine aaZ ayZ Tryz.func44 (c:=trie_Trie_Put.body) (by kernel_rfl) [.at (.int .i64)] (trie_Trie_Put.ann R) 97 Tryz.ntmps44 [.tmp 6] (by kernel_rfl) (Nat.le_of_ble_eq_true (by kernel_rfl)) ?_ ?_
 ·exact⟨tv,⟨⟨tv,⟨⟨tv,tv⟩,tv⟩⟩,⟨⟨tv,⟨⟨tv,tv⟩,tv⟩⟩,⟨⟨tv,⟨⟨tv,tv⟩,tv⟩⟩,⟨fun s w=>mq,⟨fun s w=>mq,(show Region.noSelect _=true by kernel_rfl),⟨⟨tv,tv⟩,tv⟩⟩,⟨tv,⟨⟨tv,(fun k1=>⟨fun s w=>mq,⟨tv,⟨⟨tv,tv⟩,⟨⟨tv,⟨tv,⟨fun s w=>mq,⟨tv,⟨⟨tv,tv⟩,tv⟩⟩,tv⟩⟩⟩,tv⟩⟩⟩⟩)⟩,⟨fun s w=>mq,⟨tv,⟨tv,tv⟩⟩,⟨tv,⟨tv,⟨tv,tv⟩⟩⟩⟩⟩⟩⟩⟩⟩⟩⟩
 ·exact Eq.mp (show trie_Trie_Put.M R v0 v1 v2 w=_ by kernel_rfl) h
noncomputable def trie_New.body:Code:=(Tryz.f53.body).getD .skip
def trie_New.j1(R:EPq)(v0:Int)(t9:Bool)(w:World):Prop:=
 Cd t9 (R (.returned (.tuple #[(.pointer none),(.int .i64 7)])) w) (Cl Tryz.prog 74 #[] (.one (.at .ptr)) (fun(x1:(Option Addr)) w2=>
 Wr Tryz.prog (Instr.box 128 (.agg #[(.pointer x1),(.int .i64 v0),(.int .i64 0),(.int .i64 0)])) (.one (.at .addr)) (fun(x3:Addr) w4=>
 R (.returned (.tuple #[(.pointer (some x3)),(.int .i64 0)])) w4) w2) w)
def trie_New.M(R:EPq)(v0:Int)(w:World):Prop:=
 Cd (decide (v0<1)) (trie_New.j1 R v0 true w) (trie_New.j1 R v0 (decide (v0>1024)) w)
noncomputable def trie_New.ann(R:EPq):Ann:=
 .seq (.reg qN2) (.seq (.join [(0,qcI),(9,.at .bool)] (fun s w=>trie_New.j1 R s.1 s.2.1 w) (.reg (.op 0 .now (.op 1 .now (.op 2 .now (.split 2 (.skip 3 (.skip 4 (.op 5 .now (.done)))) (.op 3 .now (.op 4 .now (.op 5 .now (.done))))))))) (.cond (.seq (.reg qN2) (.leaf)) (.leaf))) (.seq (.reg (.op 0 (.cl (.one qcP)) (.op 1 .now (.op 2 .now (.op 3 (.wr (.one (.at .addr))) (.op 4 .now (.op 5 .now (.done)))))))) (.leaf)))
theorem trie_New.run(R:EPq)(v0:Int)(w:World)(h:trie_New.M R v0 w):Calls Tryz.prog 53 #[(.int .i64 v0)] w R:=by
 refine aaZ ayZ Tryz.func53 (c:=trie_New.body) (by kernel_rfl) [.at .ptr,.at (.int .i64)] (trie_New.ann R) 14 Tryz.ntmps53 [.tmp 2,.tmp 3] (by kernel_rfl) (Nat.le_of_ble_eq_true (by kernel_rfl)) ?_ ?_
 ·exact⟨tv,⟨⟨fun s w=>mq,tv,⟨⟨tv,tv⟩,tv⟩⟩,⟨tv,tv⟩⟩⟩
 ·exact Eq.mp (show trie_New.M R v0 w=_ by kernel_rfl) h
noncomputable def trie_Trie_Len.body:Code:=(Tryz.f54.body).getD .skip
def trie_Trie_Len.M(R:EPq)(v0:(Option Addr))(w:World):Prop:=
 Pu Tryz.prog (do eqGuard .eql 76 (.tmp 3) (.const (.pointer none)) (.pointer v0) (.pointer none);binOp .eql 76 (.pointer v0) (.pointer none)) (.one (.at .bool)) (fun(x1:Bool) w2=>
 Cd x1 (R (.returned (.int .i64 0)) w2) (Pu Tryz.prog (amZ v0) (.one (.at .addr)) (fun(x3:Addr) w4=>
 Rd Tryz.prog (Instr.loadAt 3 (.pointer (some (Addr.add x3 2)))) (.one (.at (.int .i64))) (fun(x5:Int) w6=>
 R (.returned (.int .i64 x5)) w6) w4) w2)) w
noncomputable def trie_Trie_Len.ann(R:EPq):Ann:=
 .seq (.reg qN1) (.seq (.seq (.reg (.op 0 .now (.op 1 (.pu (.one (.at .bool))) (.done)))) (.cond (.seq (.reg qN1) (.leaf)) (.leaf))) (.seq (.reg (.op 0 .now (.op 1 qpA (.op 2 .now (.op 3 (.rd (.one qcI)) (.op 4 .now (.done))))))) (.leaf)))
theorem trie_Trie_Len.run(R:EPq)(v0:(Option Addr))(w:World)(h:trie_Trie_Len.M R v0 w):Calls Tryz.prog 54 #[(.pointer v0)] w R:=by
 refine aaZ ayZ Tryz.func54 (c:=trie_Trie_Len.body) (by kernel_rfl) [.at (.int .i64)] (trie_Trie_Len.ann R) 9 Tryz.ntmps54 [.tmp 2] (by kernel_rfl) (Nat.le_of_ble_eq_true (by kernel_rfl)) ?_ ?_
 ·exact⟨tv,⟨⟨tv,⟨⟨tv,tv⟩,tv⟩⟩,⟨tv,tv⟩⟩⟩
 ·exact Eq.mp (show trie_Trie_Len.M R v0 w=_ by kernel_rfl) h
noncomputable def trie_Trie_holder.body:Code:=(Tryz.f64.body).getD .skip
def trie_Trie_holder.j1(R:EPq)(v5:(Option Addr))(t16:Bool)(w:World):Prop:=
 Cd t16 (R (.returned (.pointer v5)) w) (R (.returned (.pointer none)) w)
def trie_Trie_holder.M(R:EPq)(v0:(Option Addr))(v1:Sl)(w:World):Prop:=
 Cl Tryz.prog 88 #[(.pointer v0),(.slice v1.base v1.len v1.cap)] (.one (.at .ptr)) (fun(x1:(Option Addr)) w2=>
 Pu Tryz.prog (do eqGuard .neq 118 (.tmp 9) (.const (.pointer none)) (.pointer x1) (.pointer none);binOp .neq 118 (.pointer x1) (.pointer none)) (.one (.at .bool)) (fun(x3:Bool) w4=>
 Cd x3 (Pu Tryz.prog (amZ x1) (.one (.at .addr)) (fun(x5:Addr) w6=>
 Rd Tryz.prog (Instr.loadAt 4 (.pointer (some (Addr.add x5 1)))) (.one (.at .bool)) (fun(x7:Bool) w8=>
 trie_Trie_holder.j1 R x1 x7 w8) w6) w4) (trie_Trie_holder.j1 R x1 false w4)) w2) w
noncomputable def trie_Trie_holder.ann(R:EPq):Ann:=
 .seq (.reg qN1) (.seq (.seq (.reg (.op 0 .now (.op 1 .now (.op 2 (.cl (.one qcP)) (.op 3 .now (.done)))))) (.join [(5,qcP),(16,.at .bool)] (fun s w=>trie_Trie_holder.j1 R s.1 s.2.1 w) (.reg (.op 0 .now (.op 1 (.pu (.one (.at .bool))) (.op 2 .now (.split 2 (.op 3 .now (.op 4 qpA (.op 5 .now (.op 6 (.rd (.one (.at .bool))) (.op 7 .now (.done)))))) (.skip 3 (.skip 4 (.skip 5 (.skip 6 (.op 7 .now (.done))))))))))) (.cond (.seq (.reg qN2) (.leaf)) (.leaf)))) (.seq (.reg qN1) (.leaf)))
theorem trie_Trie_holder.run(R:EPq)(v0:(Option Addr))(v1:Sl)(w:World)(h:trie_Trie_holder.M R v0 v1 w):Calls Tryz.prog 64 #[(.pointer v0),(.slice v1.base v1.len v1.cap)] w R:=by
 refine aaZ ayZ Tryz.func64 (c:=trie_Trie_holder.body) (by kernel_rfl) [.at .ptr] (trie_Trie_holder.ann R) 18 Tryz.ntmps64 [.tmp 4] (by kernel_rfl) (Nat.le_of_ble_eq_true (by kernel_rfl)) ?_ ?_
 ·exact⟨tv,⟨⟨tv,⟨fun s w=>mq,tv,⟨⟨tv,tv⟩,tv⟩⟩⟩,⟨tv,tv⟩⟩⟩
 ·exact Eq.mp (show trie_Trie_holder.M R v0 v1 w=_ by kernel_rfl) h
noncomputable def trie_Trie_use.body:Code:=(Tryz.f65.body).getD .skip
def trie_Trie_use.M(R:EPq)(v0:(Option Addr))(v1:(Option Addr))(w:World):Prop:=
 Pu Tryz.prog (amZ v0) (.one (.at .addr)) (fun(x1:Addr) w2=>
 Rd Tryz.prog (Instr.loadAt 3 (.pointer (some (Addr.add x1 3)))) (.one (.at (.int .i64))) (fun(x3:Int) w4=>
 Pu Tryz.prog (amZ v0) (.one (.at .addr)) (fun(x5:Addr) w6=>
 Wu Tryz.prog (Instr.storeAt 3 (.pointer (some (Addr.add x5 3))) (.int .i64 (IntKind.wrap .i64 (x3+1)))) (fun w7=>
 Pu Tryz.prog (amZ v0) (.one (.at .addr)) (fun(x8:Addr) w9=>
 Rd Tryz.prog (Instr.loadAt 3 (.pointer (some (Addr.add x8 3)))) (.one (.at (.int .i64))) (fun(x10:Int) w11=>
 Pu Tryz.prog (amZ v1) (.one (.at .addr)) (fun(x12:Addr) w13=>
 Wu Tryz.prog (Instr.storeAt 3 (.pointer (some (Addr.add x12 3))) (.int .i64 x10)) (fun w14=>
 R (.returned (.tuple #[])) w14) w13) w11) w9) w7) w6) w4) w2) w
noncomputable def trie_Trie_use.ann(R:EPq):Ann:=
 .seq (.reg (.op 0 .now (.op 1 qpA (.op 2 .now (.op 3 (.rd (.one qcI)) (.op 4 .now (.op 5 qpA (.op 6 .now (.op 7 .wu (.done)))))))))) (.reg (.op 0 .now (.op 1 .now (.op 2 qpA (.op 3 .now (.op 4 (.rd (.one qcI)) (.op 5 qpA (.op 6 .now (.op 7 .wu (.done))))))))))
theorem trie_Trie_use.run(R:EPq)(v0:(Option Addr))(v1:(Option Addr))(w:World)(h:trie_Trie_use.M R v0 v1 w):Calls Tryz.prog 65 #[(.pointer v0),(.pointer v1)] w R:=by
 refine aaZ ayZ Tryz.func65 (c:=trie_Trie_use.body) (by kernel_rfl) [] (trie_Trie_use.ann R) 18 Tryz.ntmps65 [] (by kernel_rfl) (Nat.le_of_ble_eq_true (by kernel_rfl)) ?_ ?_
 ·exact⟨tv,tv⟩
 ·exact Eq.mp (show trie_Trie_use.M R v0 v1 w=_ by kernel_rfl) h
noncomputable def trie_copied.body:Code:=(Tryz.f66.body).getD .skip
def trie_copied.b1(R:EPq)(k1:(Sl×Sl×Int×Int×Unit)→WPq)(v3:Sl)(t9:Sl)(t10:Int)(t11:Int)(w:World):Prop:=
 Cd (decide (t11<t10)) (Pu Tryz.prog (Instr.indexAt 30 (.slice t9.base t9.len t9.cap) (.int .i64 t11)) (.one (.at .addr)) (fun(x3:Addr) w4=>
 Rd Tryz.prog (Instr.loadAt 24 (.pointer (some x3))) (.one (.at .sl)) (fun(x5:Sl) w6=>
 Wr Tryz.prog (Builtin.append_ #[24,24] 24 #[(.slice none 0 0),(.slice x5.base x5.len x5.cap)]) (.one (.at .sl)) (fun(x7:Sl) w8=>
 Pu Tryz.prog (Instr.indexAt 30 (.slice v3.base v3.len v3.cap) (.int .i64 t11)) (.one (.at .addr)) (fun(x9:Addr) w10=>
 Wu Tryz.prog (Instr.storeAt 24 (.pointer (some x9)) (.slice x7.base x7.len x7.cap)) (fun w11=>
 k1 (v3,t9,t10,(IntKind.wrap .i64 (t11+1)),()) w11) w10) w8) w6) w4) w) (R (.returned (.slice v3.base v3.len v3.cap)) w)
def trie_copied.l1(R:EPq):(Sl×Sl×Int×Int×Unit)→World→Prop:=arZ (fun k1 s w=>trie_copied.b1 R k1 s.1 s.2.1 s.2.2.1 s.2.2.2.1 w)
def trie_copied.M(R:EPq)(v0:Sl)(w:World):Prop:=
 Wr Tryz.prog (Instr.makeSlice 30 (.int .i64 ((v0.len:Nat):Int)) (.int .i64 ((v0.len:Nat):Int))) (.one (.at .sl)) (fun(x1:Sl) w2=>
 trie_copied.l1 R (x1,v0,((v0.len:Nat):Int),0,()) w2) w
noncomputable def trie_copied.ann(R:EPq):Ann:=
 .seq (.reg qN1) (.seq (.reg (.op 0 .now (.op 1 .now (.op 2 (.wr (.one qcS)) (.op 3 .now (.done)))))) (.seq (.seq (.reg qN3) (.block (.loop [(3,qcS),(9,qcS),(10,qcI),(11,qcI)] (fun k1 s w=>trie_copied.b1 R k1 s.1 s.2.1 s.2.2.1 s.2.2.2.1 w) (fun k1=>.seq (.reg qN1) (.seq (.cond (.leaf) (.leaf)) (.seq (.block (.seq (.reg (.op 0 .now (.op 1 qpA (.op 2 qrS (.op 3 .now (.op 4 .now (.done))))))) (.reg (.op 0 .now (.op 1 .now (.op 2 .now (.op 3 (.wr (.one qcS)) (.op 4 qpA (.op 5 .wu (.done)))))))))) (.reg qN2))))))) (.seq (.reg qN2) (.leaf))))
theorem trie_copied.run(R:EPq)(v0:Sl)(w:World)(h:trie_copied.M R v0 w):Calls Tryz.prog 66 #[(.slice v0.base v0.len v0.cap)] w R:=by
 refine aaZ ayZ Tryz.func66 (c:=trie_copied.body) (by kernel_rfl) [.at .sl] (trie_copied.ann R) 23 Tryz.ntmps66 [.tmp 2] (by kernel_rfl) (Nat.le_of_ble_eq_true (by kernel_rfl)) ?_ ?_
 ·exact⟨tv,⟨tv,⟨⟨tv,(fun k1=>⟨fun s w=>mq,⟨tv,⟨⟨tv,tv⟩,⟨⟨tv,tv⟩,tv⟩⟩⟩⟩)⟩,⟨tv,tv⟩⟩⟩⟩
 ·exact Eq.mp (show trie_copied.M R v0 w=_ by kernel_rfl) h
noncomputable def trie_isKey.body:Code:=(Tryz.f71.body).getD .skip
def trie_isKey.j1(R:EPq)(k1:(Sl×Sl×Int×Int×Unit)→WPq)(v0:Sl)(t5:Sl)(t6:Int)(t7:Int)(t30:Bool)(w:World):Prop:=
 Cd t30 (R (.returned (.bool false)) w) (k1 (v0,t5,t6,(IntKind.wrap .i64 (t7+1)),()) w)
def trie_isKey.b1(R:EPq)(k1:(Sl×Sl×Int×Int×Unit)→WPq)(v0:Sl)(t5:Sl)(t6:Int)(t7:Int)(w:World):Prop:=
 Cd (decide (t7<t6)) (Pu Tryz.prog (Instr.indexAt 25 (.slice t5.base t5.len t5.cap) (.int .i64 t7)) (.one (.at .addr)) (fun(x1:Addr) w2=>
 Rd Tryz.prog (Instr.loadAt 3 (.pointer (some x1))) (.one (.at (.int .i64))) (fun(x3:Int) w4=>
 Cd (decide (x3<0)) (trie_isKey.j1 R k1 v0 t5 t6 t7 true w4) (Cd (decide (x3>255)) (trie_isKey.j1 R k1 v0 t5 t6 t7 true w4) (Cd (decide (t7>0)) (Pu Tryz.prog (Instr.indexAt 25 (.slice v0.base v0.len v0.cap) (.int .i64 (IntKind.wrap .i64 (t7-1)))) (.one (.at .addr)) (fun(x5:Addr) w6=>
 Rd Tryz.prog (Instr.loadAt 3 (.pointer (some x5))) (.one (.at (.int .i64))) (fun(x7:Int) w8=>
 trie_isKey.j1 R k1 v0 t5 t6 t7 (decide (x3≤x7)) w8) w6) w4) (trie_isKey.j1 R k1 v0 t5 t6 t7 false w4)))) w2) w) (R (.returned (.bool true)) w)
def trie_isKey.l1(R:EPq):(Sl×Sl×Int×Int×Unit)→World→Prop:=arZ (fun k1 s w=>trie_isKey.b1 R k1 s.1 s.2.1 s.2.2.1 s.2.2.2.1 w)
def trie_isKey.M(R:EPq)(v0:Sl)(w:World):Prop:=
 trie_isKey.l1 R (v0,v0,((v0.len:Nat):Int),0,()) w
noncomputable def trie_isKey.ann(R:EPq):Ann:=
 .seq (.reg qN1) (.seq (.seq (.reg qN3) (.block (.loop [(0,qcS),(5,qcS),(6,qcI),(7,qcI)] (fun k1 s w=>trie_isKey.b1 R k1 s.1 s.2.1 s.2.2.1 s.2.2.2.1 w) (fun k1=>.seq (.reg qN1) (.seq (.cond (.leaf) (.leaf)) (.seq (.block (.seq (.reg (.op 0 .now (.op 1 qpA (.op 2 (.rd (.one qcI)) (.op 3 .now (.op 4 .now (.done))))))) (.join [(0,qcS),(5,qcS),(6,qcI),(7,qcI),(30,.at .bool)] (fun s w=>trie_isKey.j1 R k1 s.1 s.2.1 s.2.2.1 s.2.2.2.1 s.2.2.2.2.1 w) (.reg (.op 0 .now (.op 1 .now (.op 2 .now (.split 2 (.skip 3 (.skip 4 (.op 5 .now (.op 6 .now (.skip 7 (.skip 8 (.skip 9 (.skip 10 (.skip 11 (.skip 12 (.skip 13 (.skip 14 (.skip 15 (.skip 16 (.skip 17 (.op 18 .now (.done))))))))))))))))) (.op 3 .now (.op 4 .now (.op 5 .now (.op 6 .now (.split 6 (.skip 7 (.skip 8 (.skip 9 (.skip 10 (.skip 11 (.skip 12 (.skip 13 (.skip 14 (.skip 15 (.skip 16 (.skip 17 (.op 18 .now (.done))))))))))))) (.op 7 .now (.op 8 .now (.op 9 .now (.split 9 (.op 10 .now (.op 11 .now (.op 12 .now (.op 13 .now (.op 14 qpA (.op 15 (.rd (.one qcI)) (.op 16 .now (.op 17 .now (.op 18 .now (.done)))))))))) (.skip 10 (.skip 11 (.skip 12 (.skip 13 (.skip 14 (.skip 15 (.skip 16 (.op 17 .now (.op 18 .now (.done)))))))))))))))))))))))) (.cond (.seq (.reg qN1) (.leaf)) (.leaf))))) (.reg qN2))))))) (.seq (.reg qN1) (.leaf)))
theorem trie_isKey.run(R:EPq)(v0:Sl)(w:World)(h:trie_isKey.M R v0 w):Calls Tryz.prog 71 #[(.slice v0.base v0.len v0.cap)] w R:=by
 refine aaZ ayZ Tryz.func71 (c:=trie_isKey.body) (by kernel_rfl) [.at .bool] (trie_isKey.ann R) 32 Tryz.ntmps71 [.tmp 2] (by kernel_rfl) (Nat.le_of_ble_eq_true (by kernel_rfl)) ?_ ?_
 ·exact⟨tv,⟨⟨tv,(fun k1=>⟨fun s w=>mq,⟨tv,⟨⟨tv,tv⟩,⟨⟨tv,⟨fun s w=>mq,tv,⟨⟨tv,tv⟩,tv⟩⟩⟩,tv⟩⟩⟩⟩)⟩,⟨tv,tv⟩⟩⟩
 ·exact Eq.mp (show trie_isKey.M R v0 w=_ by kernel_rfl) h
noncomputable def trie_Trie_Recent.body:Code:=(Tryz.f72.body).getD .skip
def trie_Trie_Recent.j1(R:EPq)(v0:(Option Addr))(t12:Bool)(w:World):Prop:=
 Cd t12 (R (.returned (.slice none 0 0)) w) (Pu Tryz.prog (amZ v0) (.one (.at .addr)) (fun(x1:Addr) w2=>
 Rd Tryz.prog (Instr.loadAt 118 (.pointer (some x1))) (.one (.at .ptr)) (fun(x3:(Option Addr)) w4=>
 Cl Tryz.prog 95 #[(.pointer x3),(.slice none 0 0),(.slice none 0 0)] (.one (.at .sl)) (fun(x5:Sl) w6=>
 Cl Tryz.prog 96 #[(.slice x5.base x5.len x5.cap),(.func (.func 97) #[] #[])] (.tup []) (fun x7 w8=>
 Cl Tryz.prog 98 #[(.slice x5.base x5.len x5.cap)] (.one (.at .sl)) (fun(x9:Sl) w10=>
 R (.returned (.slice x9.base x9.len x9.cap)) w10) w8) w6) w4) w2) w)
def trie_Trie_Recent.M(R:EPq)(v0:(Option Addr))(w:World):Prop:=
 Pu Tryz.prog (do eqGuard .eql 76 (.tmp 4) (.const (.pointer none)) (.pointer v0) (.pointer none);binOp .eql 76 (.pointer v0) (.pointer none)) (.one (.at .bool)) (fun(x11:Bool) w12=>
 Cd x11 (trie_Trie_Recent.j1 R v0 true w12) (Pu Tryz.prog (amZ v0) (.one (.at .addr)) (fun(x13:Addr) w14=>
 Rd Tryz.prog (Instr.loadAt 118 (.pointer (some x13))) (.one (.at .ptr)) (fun(x15:(Option Addr)) w16=>
 Pu Tryz.prog (do eqGuard .eql 118 (.tmp 10) (.const (.pointer none)) (.pointer x15) (.pointer none);binOp .eql 118 (.pointer x15) (.pointer none)) (.one (.at .bool)) (fun(x17:Bool) w18=>
 trie_Trie_Recent.j1 R v0 x17 w18) w16) w14) w12)) w
noncomputable def trie_Trie_Recent.ann(R:EPq):Ann:=
 .seq (.reg qN1) (.seq (.join [(0,qcP),(12,.at .bool)] (fun s w=>trie_Trie_Recent.j1 R s.1 s.2.1 w) (.reg (.op 0 .now (.op 1 (.pu (.one (.at .bool))) (.op 2 .now (.split 2 (.skip 3 (.skip 4 (.skip 5 (.skip 6 (.skip 7 (.op 8 .now (.done))))))) (.op 3 .now (.op 4 qpA (.op 5 .now (.op 6 (.rd (.one qcP)) (.op 7 (.pu (.one (.at .bool))) (.op 8 .now (.done)))))))))))) (.cond (.seq (.reg qN1) (.leaf)) (.leaf))) (.seq (.reg (.op 0 .now (.op 1 qpA (.op 2 .now (.op 3 (.rd (.one qcP)) (.op 4 (.cl (.one qcS)) (.op 5 .now (.done)))))))) (.seq (.reg (.op 0 .now (.op 1 (.cl (.tup [])) (.done)))) (.seq (.reg (.op 0 .now (.op 1 (.cl (.one qcS)) (.op 2 .now (.done))))) (.leaf)))))
theorem trie_Trie_Recent.run(R:EPq)(v0:(Option Addr))(w:World)(h:trie_Trie_Recent.M R v0 w):Calls Tryz.prog 72 #[(.pointer v0)] w R:=by
 refine aaZ ayZ Tryz.func72 (c:=trie_Trie_Recent.body) (by kernel_rfl) [.at .sl] (trie_Trie_Recent.ann R) 22 Tryz.ntmps72 [.tmp 2] (by kernel_rfl) (Nat.le_of_ble_eq_true (by kernel_rfl)) ?_ ?_
 ·exact⟨tv,⟨⟨fun s w=>mq,tv,⟨⟨tv,tv⟩,tv⟩⟩,⟨tv,⟨tv,⟨tv,tv⟩⟩⟩⟩⟩
 ·exact Eq.mp (show trie_Trie_Recent.M R v0 w=_ by kernel_rfl) h
noncomputable def trie_Trie_Drop.body:Code:=(Tryz.f73.body).getD .skip
def trie_Trie_Drop.M(R:EPq)(v0:(Option Addr))(v1:Sl)(w:World):Prop:=
 Cl Tryz.prog 64 #[(.pointer v0),(.slice v1.base v1.len v1.cap)] (.one (.at .ptr)) (fun(x1:(Option Addr)) w2=>
 Pu Tryz.prog (do eqGuard .eql 118 (.tmp 9) (.const (.pointer none)) (.pointer x1) (.pointer none);binOp .eql 118 (.pointer x1) (.pointer none)) (.one (.at .bool)) (fun(x3:Bool) w4=>
 Cd x3 (R (.returned (.bool false)) w4) (Pu Tryz.prog (amZ x1) (.one (.at .addr)) (fun(x5:Addr) w6=>
 Wu Tryz.prog (Instr.storeAt 4 (.pointer (some (Addr.add x5 1))) (.bool false)) (fun w7=>
 Pu Tryz.prog (amZ x1) (.one (.at .addr)) (fun(x8:Addr) w9=>
 Wu Tryz.prog (Instr.storeAt 30 (.pointer (some (Addr.add x8 2))) (.slice none 0 0)) (fun w10=>
 Pu Tryz.prog (amZ v0) (.one (.at .addr)) (fun(x11:Addr) w12=>
 Rd Tryz.prog (Instr.loadAt 3 (.pointer (some (Addr.add x11 2)))) (.one (.at (.int .i64))) (fun(x13:Int) w14=>
 Pu Tryz.prog (amZ v0) (.one (.at .addr)) (fun(x15:Addr) w16=>
 Wu Tryz.prog (Instr.storeAt 3 (.pointer (some (Addr.add x15 2))) (.int .i64 (IntKind.wrap .i64 (x13-1)))) (fun w17=>
 Pu Tryz.prog (amZ v0) (.one (.at .addr)) (fun(x18:Addr) w19=>
 Rd Tryz.prog (Instr.loadAt 118 (.pointer (some x18))) (.one (.at .ptr)) (fun(x20:(Option Addr)) w21=>
 Cl Tryz.prog 99 #[(.pointer x20),(.slice v1.base v1.len v1.cap)] (.one (.at .bool)) (fun(x22:Bool) w23=>
 R (.returned (.bool true)) w23) w21) w19) w17) w16) w14) w12) w10) w9) w7) w6) w4)) w2) w
noncomputable def trie_Trie_Drop.ann(R:EPq):Ann:=
 .seq (.reg qN1) (.seq (.reg (.op 0 .now (.op 1 .now (.op 2 (.cl (.one qcP)) (.op 3 .now (.done)))))) (.seq (.seq (.reg (.op 0 .now (.op 1 (.pu (.one (.at .bool))) (.done)))) (.cond (.seq (.reg qN1) (.leaf)) (.leaf))) (.seq (.reg (.op 0 .now (.op 1 .now (.op 2 qpA (.op 3 .now (.op 4 .wu (.op 5 qpA (.op 6 .now (.op 7 .wu (.done)))))))))) (.seq (.reg (.op 0 .now (.op 1 qpA (.op 2 .now (.op 3 (.rd (.one qcI)) (.op 4 .now (.op 5 qpA (.op 6 .now (.op 7 .wu (.done)))))))))) (.seq (.reg (.op 0 .now (.op 1 qpA (.op 2 .now (.op 3 (.rd (.one qcP)) (.op 4 .now (.op 5 (.cl (.one (.at .bool))) (.done)))))))) (.seq (.reg qN1) (.leaf)))))))
theorem trie_Trie_Drop.run(R:EPq)(v0:(Option Addr))(v1:Sl)(w:World)(h:trie_Trie_Drop.M R v0 v1 w):Calls Tryz.prog 73 #[(.pointer v0),(.slice v1.base v1.len v1.cap)] w R:=by
 refine aaZ ayZ Tryz.func73 (c:=trie_Trie_Drop.body) (by kernel_rfl) [.at .bool] (trie_Trie_Drop.ann R) 30 Tryz.ntmps73 [.tmp 4] (by kernel_rfl) (Nat.le_of_ble_eq_true (by kernel_rfl)) ?_ ?_
 ·exact⟨tv,⟨tv,⟨⟨tv,⟨⟨tv,tv⟩,tv⟩⟩,⟨tv,⟨tv,⟨tv,⟨tv,tv⟩⟩⟩⟩⟩⟩⟩
 ·exact Eq.mp (show trie_Trie_Drop.M R v0 v1 w=_ by kernel_rfl) h
noncomputable def trie_fresh.body:Code:=(Tryz.f74.body).getD .skip
def trie_fresh.M(R:EPq)(w:World):Prop:=
 Wr Tryz.prog (Instr.makeMap 121 none) (.one (.at .map)) (fun(x1:(Option Nat)) w2=>
 Wr Tryz.prog (Instr.box 123 (.agg #[(.map x1),(.bool false),(.slice none 0 0),(.int .i64 0)])) (.one (.at .addr)) (fun(x3:Addr) w4=>
 R (.returned (.pointer (some x3))) w4) w2) w
noncomputable def trie_fresh.ann(R:EPq):Ann:=
 .seq (.reg qN1) (.seq (.reg (.op 0 (.wr (.one (.at .map))) (.op 1 .now (.op 2 (.wr (.one (.at .addr))) (.op 3 .now (.done)))))) (.leaf))
theorem trie_fresh.run(R:EPq)(w:World)(h:trie_fresh.M R w):Calls Tryz.prog 74 #[] w R:=by
 refine aaZ ayZ Tryz.func74 (c:=trie_fresh.body) (by kernel_rfl) [.at .ptr] (trie_fresh.ann R) 4 Tryz.ntmps74 [.tmp 0] (by kernel_rfl) (Nat.le_of_ble_eq_true (by kernel_rfl)) ?_ ?_
 ·exact⟨tv,⟨tv,tv⟩⟩
 ·exact Eq.mp (show trie_fresh.M R w=_ by kernel_rfl) h
noncomputable def trie_Trie_find.body:Code:=(Tryz.f88.body).getD .skip
def trie_Trie_find.b1(R:EPq)(k1:((Option Addr)×Sl×Int×Int×Unit)→WPq)(v5:(Option Addr))(t26:Sl)(t27:Int)(t28:Int)(w:World):Prop:=
 Cd (decide (t28<t27)) (Pu Tryz.prog (Instr.indexAt 25 (.slice t26.base t26.len t26.cap) (.int .i64 t28)) (.one (.at .addr)) (fun(x5:Addr) w6=>
 Rd Tryz.prog (Instr.loadAt 3 (.pointer (some x5))) (.one (.at (.int .i64))) (fun(x7:Int) w8=>
 Pu Tryz.prog (amZ v5) (.one (.at .addr)) (fun(x9:Addr) w10=>
 Rd Tryz.prog (Instr.loadAt 121 (.pointer (some x9))) (.one (.at .map)) (fun(x11:(Option Nat)) w12=>
 Rd Tryz.prog (Instr.lookup 121 (.map x11) (.int .i64 x7) false) (.one (.at .ptr)) (fun(x13:(Option Addr)) w14=>
 Pu Tryz.prog (do eqGuard .eql 118 (.tmp 38) (.const (.pointer none)) (.pointer x13) (.pointer none);binOp .eql 118 (.pointer x13) (.pointer none)) (.one (.at .bool)) (fun(x15:Bool) w16=>
 Cd x15 (R (.returned (.pointer none)) w16) (k1 (x13,t26,t27,(IntKind.wrap .i64 (t28+1)),()) w16)) w14) w12) w10) w8) w6) w) (R (.returned (.pointer v5)) w)
def trie_Trie_find.l1(R:EPq):((Option Addr)×Sl×Int×Int×Unit)→World→Prop:=arZ (fun k1 s w=>trie_Trie_find.b1 R k1 s.1 s.2.1 s.2.2.1 s.2.2.2.1 w)
def trie_Trie_find.j1(R:EPq)(v0:(Option Addr))(v1:Sl)(t21:Bool)(w:World):Prop:=
 Cd t21 (R (.returned (.pointer none)) w) (Pu Tryz.prog (amZ v0) (.one (.at .addr)) (fun(x1:Addr) w2=>
 Rd Tryz.prog (Instr.loadAt 118 (.pointer (some x1))) (.one (.at .ptr)) (fun(x3:(Option Addr)) w4=>
 trie_Trie_find.l1 R (x3,v1,((v1.len:Nat):Int),0,()) w4) w2) w)
def trie_Trie_find.M(R:EPq)(v0:(Option Addr))(v1:Sl)(w:World):Prop:=
 Pu Tryz.prog (do eqGuard .eql 76 (.tmp 8) (.const (.pointer none)) (.pointer v0) (.pointer none);binOp .eql 76 (.pointer v0) (.pointer none)) (.one (.at .bool)) (fun(x17:Bool) w18=>
 Cd x17 (trie_Trie_find.j1 R v0 v1 true w18) (Pu Tryz.prog (amZ v0) (.one (.at .addr)) (fun(x19:Addr) w20=>
 Rd Tryz.prog (Instr.loadAt 118 (.pointer (some x19))) (.one (.at .ptr)) (fun(x21:(Option Addr)) w22=>
 Pu Tryz.prog (do eqGuard .eql 118 (.tmp 14) (.const (.pointer none)) (.pointer x21) (.pointer none);binOp .eql 118 (.pointer x21) (.pointer none)) (.one (.at .bool)) (fun(x23:Bool) w24=>
 Cd x23 (trie_Trie_find.j1 R v0 v1 true w24) (Cl Tryz.prog 71 #[(.slice v1.base v1.len v1.cap)] (.one (.at .bool)) (fun(x25:Bool) w26=>
 trie_Trie_find.j1 R v0 v1 (!x25) w26) w24)) w22) w20) w18)) w
noncomputable def trie_Trie_find.ann(R:EPq):Ann:=
 .seq (.reg qN1) (.seq (.join [(0,qcP),(1,qcS),(21,.at .bool)] (fun s w=>trie_Trie_find.j1 R s.1 s.2.1 s.2.2.1 w) (.reg (.op 0 .now (.op 1 (.pu (.one (.at .bool))) (.op 2 .now (.split 2 (.skip 3 (.skip 4 (.skip 5 (.skip 6 (.skip 7 (.op 8 .now (.op 9 .now (.skip 10 (.skip 11 (.skip 12 (.op 13 .now (.done)))))))))))) (.op 3 .now (.op 4 qpA (.op 5 .now (.op 6 (.rd (.one qcP)) (.op 7 (.pu (.one (.at .bool))) (.op 8 .now (.op 9 .now (.split 9 (.skip 10 (.skip 11 (.skip 12 (.op 13 .now (.done))))) (.op 10 .now (.op 11 (.cl (.one (.at .bool))) (.op 12 .now (.op 13 .now (.done)))))))))))))))))) (.cond (.seq (.reg qN1) (.leaf)) (.leaf))) (.seq (.reg (.op 0 .now (.op 1 qpA (.op 2 .now (.op 3 (.rd (.one qcP)) (.op 4 .now (.done))))))) (.seq (.seq (.reg qN3) (.block (.loop [(5,qcP),(26,qcS),(27,qcI),(28,qcI)] (fun k1 s w=>trie_Trie_find.b1 R k1 s.1 s.2.1 s.2.2.1 s.2.2.2.1 w) (fun k1=>.seq (.reg qN1) (.seq (.cond (.leaf) (.leaf)) (.seq (.block (.seq (.reg (.op 0 qpA (.op 1 (.rd (.one qcI)) (.op 2 .now (.done))))) (.seq (.reg (.op 0 .now (.op 1 qpA (.op 2 .now (.op 3 (.rd (.one (.at .map))) (.op 4 .now (.op 5 (.rd (.one qcP)) (.op 6 .now (.done))))))))) (.seq (.reg (.op 0 .now (.op 1 (.pu (.one (.at .bool))) (.done)))) (.cond (.seq (.reg qN1) (.leaf)) (.leaf)))))) (.reg qN2))))))) (.seq (.reg qN2) (.leaf)))))
theorem trie_Trie_find.run(R:EPq)(v0:(Option Addr))(v1:Sl)(w:World)(h:trie_Trie_find.M R v0 v1 w):Calls Tryz.prog 88 #[(.pointer v0),(.slice v1.base v1.len v1.cap)] w R:=by
 refine aaZ ayZ Tryz.func88 (c:=trie_Trie_find.body) (by kernel_rfl) [.at .ptr] (trie_Trie_find.ann R) 42 Tryz.ntmps88 [.tmp 4] (by kernel_rfl) (Nat.le_of_ble_eq_true (by kernel_rfl)) ?_ ?_
 ·exact⟨tv,⟨⟨fun s w=>mq,tv,⟨⟨tv,tv⟩,tv⟩⟩,⟨tv,⟨⟨tv,(fun k1=>⟨fun s w=>mq,⟨tv,⟨⟨tv,tv⟩,⟨⟨tv,⟨tv,⟨tv,⟨⟨tv,tv⟩,tv⟩⟩⟩⟩,tv⟩⟩⟩⟩)⟩,⟨tv,tv⟩⟩⟩⟩⟩
 ·exact Eq.mp (show trie_Trie_find.M R v0 v1 w=_ by kernel_rfl) h
end Go.Proofs.YtbiilejgfihohaaGreat
namespace Go.Proofs.YtbiilejgfihohaaGreat
open Go Go.Cu Go.RowKit
structure SetH(w:World)(sp b kb:Nat):Prop where
 has:Has w sp [kerV b kb,aOZ b] 136
 ker:KerH b kb w
 le:b≤2
theorem SetH.mo{X:Nat→Prop}{w w':World}{sp b kb:Nat}(h:SetH w sp b kb)(m:Mo X w w')(h1:¬X sp)(h2:¬X kb):SetH w' sp b kb:=⟨h.has.mo m h1,h.ker.mo m h2,h.le⟩
theorem SetH.ex{w w':World}{sp b kb:Nat}(h:SetH w sp b kb)(m:Ex w w'):SetH w' sp b kb:=h.mo m id id
theorem eq_kn(t:TypeId)(u:Value)(w':World):∀{x:Tmp},(do eqGuard .eql 132 (.tmp x) (.const .nilIface) (.iface t u) .nilIface;binOp .eql 132 (.iface t u) .nilIface:Sem Value).run Tryz.prog w'=.ok (.bool false) w':=by
 intro x;kernel_rfl
theorem Pu_kn{b kb:Nat}{x:Tmp}{k:Bool→World→Prop}{w:World}(hk:k false w):
  Pu Tryz.prog (do eqGuard .eql 132 (.tmp x) (.const .nilIface) (kerV b kb) .nilIface;binOp .eql 132 (kerV b kb) .nilIface) (.one (.at .bool)) k w:=⟨false,fun w'=>eq_kn _ _ w',hk⟩
theorem Nx_kn{b kb:Nat}{k:Value→World→Prop}{w:World}(h:k (kerV b kb) w):Nx Tryz.prog (nilAny (kerV b kb)) (.one (.at .any)) k w:=.inl ⟨_,_,rfl,h⟩
theorem Pu_setnil{x y:Operand}{a:Addr}{k:Bool→World→Prop}{w:World}(hk:k false w):
  Pu Tryz.prog (do eqGuard .eql 75 x y (.pointer (some a)) (.pointer none);binOp .eql 75 (.pointer (some a)) (.pointer none)) (.one (.at .bool)) k w:=Pu_notnil (e:=136) (by kernel_rfl) hk
theorem newSet_ok{b:Nat}(hb:b≤2)(w:World):Cl Tryz.prog 51 #[aOZ b] (.tup [.at .ptr,.at (.int .i64)]) (fun x w'=>∃sp kb,x=(at0 sp,0,())∧SetH w' sp b kb∧w.heap.size≤sp∧sp<w'.heap.size∧w.heap.size≤kb∧kb<w'.heap.size∧Ex w w') w:=by
 refine kernel_New.run _ (b:Int) w ?_
 generalize hRR:(fun(e:Ending) (w':World)=>∃x:Option Addr×Int×Unit,e=.returned ((Sh.tup [.at .ptr,.at (.int .i64)]).enc x)∧∃sp kb,x=(at0 sp,0,())∧SetH w' sp b kb∧w.heap.size≤sp∧sp<w'.heap.size∧w.heap.size≤kb∧kb<w'.heap.size∧Ex w w')=R
 unfold kernel_New.M
 have fin:∀{w1:World} {kb:Nat},KerH b kb w1→w.heap.size≤kb→kb<w1.heap.size→Ex w w1→kernel_New.j1 R (b:Int) (kerV b kb) w1:=by
  intro w1 kb hK h1 h2 hx1
  unfold kernel_New.j1
  refine⟨(kerV b kb,(b:Int),()),fun w'=>by unfold kerV;kernel_rfl,?_⟩
  refine bcZ fun w2 hB hx2=>?_
  subst hRR
  exact⟨(at0 w1.heap.size,0,()),rfl,w1.heap.size,kb,rfl,⟨hB,hK.mo hx2 id,hb⟩,hx1.size,hB.lt,h1,Nat.lt_of_lt_of_le h2 hx2.size,hx1.trans hx2⟩
 have h3:b=0∨b=1∨b=2:=by omega
 rcases h3 with rfl | rfl | rfl
 ·refine aJZ (fun _=>?_) (fun h=>absurd rfl h)
  refine aeZ (tabNew_ok w) ?_
  rintro x w1 ⟨g,rfl,h1,h2,h3,h4⟩
  exact fin (fun _=>h3) h1 h2 h4
 ·refine aJZ (fun h=>by cases h) (fun _=>aJZ (fun _=>?_) (fun h=>absurd rfl h))
  refine aeZ (nibNew_ok w) ?_
  rintro x w1 ⟨g,rfl,h1,h2,h4⟩
  exact fin (kb:=g) (fun h=>by cases h) h1 h2 h4
 ·refine aJZ (fun h=>by cases h) (fun _=>aJZ (fun h=>by cases h) (fun _=>aJZ (fun _=>?_) (fun h=>absurd rfl h)))
  refine aeZ (sliNew_ok w) ?_
  rintro x w1 ⟨g,rfl,h1,h2,h4⟩
  exact fin (kb:=g) (fun h=>by cases h) h1 h2 h4
theorem Wr_clear{w:World}{s:Sl}{g o:Nat}{cs:List Value}{l:List F8}{ty:TypeId}{K:Value→World→Prop}(h:Win w s g o cs l)(hk:∀w',Win w' s g o cs (List.replicate l.length 0#8)→Mo (fun b=>b=g) w w'→K (.tuple #[]) w'):
  Wr Tryz.prog (Builtin.clear_ #[24] ty #[.slice s.base s.len s.cap]) (.one (.at .any)) K w:=by
 obtain⟨sb,sl,sc⟩:=s
 have hl:sl=l.length:=h.len
 subst hl
 by_cases h0:l.length=0
 ·refine⟨.tuple #[],w,?_,hk w ?_ (Mo.refl _ _)⟩
  ·rw[h0]
   cases sb <;> simp[Builtin.clear_,run_underlying tB] <;> rfl
  ·rw[h0]
   have:l=[]:=List.eq_nil_of_length_eq_zero h0
   subst this
   exact h
 ·have hb:=h.base (by omega)
  simp only at hb
  subst hb
  have hz:(zeroValue 5).run Tryz.prog w=.ok (.int .u8 0) w:=by kernel_rfl
  have hzc:(Builtin.zeroCells (Value.int .u8 0).cells l.length).toList=List.replicate l.length (.int .u8 0):=by
   have:∀n,(Builtin.zeroCells #[Value.int .u8 0] n).toList=List.replicate n (.int .u8 0):=by
    intro n
    unfold Builtin.zeroCells
    simp only[List.size_toArray,List.length_cons,List.length_nil]
    simp
    have e:∀i:Nat,([Value.int .u8 0][i % 1]?).getD default=.int .u8 0:=fun i=>by rw[Nat.mod_one];rfl
    simp only[e,List.map_const',List.length_range]
   exact this _
  have hst:=run_storeCells_at Tryz.prog g o 5 (List.replicate l.length (.int .u8 0)) 0 _ w h.has (by rw[List.length_replicate,List.size_toArray,putW_len h.le];have:=h.le;omega) (fun v hv=>by rw[(List.mem_replicate.1 hv).2];rfl)
  have eC:((bFZ cs o l).toArray).toList.take (o+0)++List.replicate l.length (.int .u8 0)++((bFZ cs o l).toArray).toList.drop (o+0+(List.replicate l.length (Value.int .u8 0)).length)=bFZ cs o (List.replicate l.length 0#8):=by
   rw[Nat.add_zero,List.length_replicate]
   have e2:bFZ (bFZ cs o l) o (List.replicate l.length 0#8)=bFZ cs o (List.replicate l.length 0#8):=putW_put h.le (by rw[List.length_replicate])
   rw[←e2]
   unfold bFZ
   rw[List.map_replicate,List.length_replicate]
   rfl
  rw[eC]at hst
  refine⟨.tuple #[],w.setRow g (bFZ cs o (List.replicate l.length 0#8)).toArray,?_,hk (w.setRow g (bFZ cs o (List.replicate l.length 0#8)).toArray) ⟨setRow_heap w g (bFZ cs o l).toArray _ 5 (0,0) h.has,by rw[List.length_replicate];exact h.le,by rw[List.length_replicate],h.cap,fun _=>rfl⟩ (Mo.setRow w g _)⟩
  have hne:∃n,l.length=n+1:=⟨l.length-1,by omega⟩
  obtain⟨n,hn⟩:=hne
  have e:(Builtin.clear_ #[24] ty #[.slice (some ⟨g,o,none⟩) l.length sc]).run Tryz.prog w=((do storeCells ⟨g,o,none⟩ (Builtin.zeroCells (←zeroValue 5).cells l.length).toList;pure (.tuple #[]):Sem Value)).run Tryz.prog w:=by
   rw[hn]
   simp[Builtin.clear_,run_underlying tB]
  show(Builtin.clear_ #[24] ty #[.slice (some ⟨g,o,none⟩) l.length sc]).run Tryz.prog w=_
  rw[e]
  rw[run_bind,hz]
  simp only
  rw[run_bind,hzc,hst]
  rfl
end Go.Proofs.YtbiilejgfihohaaGreat
namespace Go.Proofs.YtbiilejgfihohaaGreat
open Go Go.Cu Go.RowKit
theorem atx{α:Type}{l:List α}{i:Nat}(h:i<l.length):∃x,l[i]? =some x:=⟨_,List.getElem?_eq_getElem h⟩
def cutM(a b:Nat)(S:Mtx):Mtx:=S.map (fun x=>(x.take b).drop a)
def sumPre(n:Nat)(r:List F8)(S:Mtx)(i:Nat):List F8:=((r.take i).zip (S.take i)).foldl (fun acc p=>aUZ p.2 p.1 acc) (List.replicate n 0#8)
theorem sumPre_all{n:Nat}{r:List F8}{S:Mtx}(h:r.length=S.length):sumPre n r S r.length=baZ n r S:=by
 unfold sumPre baZ
 rw[List.take_length,h,List.take_length]
theorem sumPre_len{n:Nat}{r:List F8}{S:Mtx}(i:Nat)(hs:∀x∈S,x.length=n):(sumPre n r S i).length=n:=by
 unfold sumPre
 exact fold_len n _ _ (by simp) (fun p hp=>hs _ (List.mem_of_mem_take (List.of_mem_zip hp).2))
theorem sumPre_succ{n:Nat}{r x:List F8}{S:Mtx}{i:Nat}{c:F8}(hc:r[i]? =some c)(hx:S[i]? =some x):sumPre n r S (i+1)=aUZ x c (sumPre n r S i):=by
 unfold sumPre
 have h1:=(List.getElem?_eq_some_iff.1 hc).1
 have h2:=(List.getElem?_eq_some_iff.1 hx).1
 rw[List.take_add_one,List.take_add_one,hc,hx]
 rw[List.zip_append (by rw[List.length_take,List.length_take];omega),List.foldl_append]
 rfl
theorem sum_ok{w:World}{sp b kb g o fr:Nat}{row srcs dst:Sl}{hs:List Sl}{S:Mtx}{r:List F8}{cs:List Value}{l:List F8}(hK:SetH w sp b kb)(hsp:sp≠g)(hkb:kb≠g)(hr:Rds f8v w row r)(hrg:∀b,SlIn row b→b≠g)
  (hS:MatR w srcs hs S) (hS1:∀b,SlIn srcs b→b≠g) (hS2:∀(i:Nat) (h:Sl),hs[i]? =some h→∀b,SlIn h b→b≠g) (hlen:r.length=S.length) (hrl:r.length≤65536) (hn:∀x∈S,fr+l.length≤x.length) (hW:Win w dst g o cs l) (hm:fr+l.length≤140737488355328):
  Cl Tryz.prog 57 #[.pointer (at0 sp),.slice row.base row.len row.cap,.slice srcs.base srcs.len srcs.cap,.int .i64 (fr:Int),.slice dst.base dst.len dst.cap] (.tup []) (fun _ w'=>Win w' dst g o cs (baZ l.length r (cutM fr (fr+l.length) S))∧Mo (fun b=>b=g) w w') w:=by
 refine kS_sum.run _ (at0 sp) row srcs (fr:Int) dst w ?_
 generalize hRR:(fun(e:Ending) (w':World)=>∃x:Cxs [],e=.returned ((Sh.tup []).enc x)∧Win w' dst g o cs (baZ l.length r (cutM fr (fr+l.length) S))∧Mo (fun b=>b=g) w w')=R
 unfold kS_sum.M
 have hdl:=hW.len
 have hrl2:=hr.1
 have hcl:(cutM fr (fr+l.length) S).length=S.length:=by unfold cutM;rw[List.length_map]
 have hcn:∀x∈cutM fr (fr+l.length) S,x.length=l.length:=by
  intro x hx
  unfold cutM at hx
  obtain⟨y,hy,rfl⟩:=List.mem_map.1 hx
  have:=hn y hy
  rw[List.length_drop,List.length_take];omega
 refine Wr_clear hW fun w1 hW1 hm1=>?_
 unfold kS_sum.l1
 refine acZ (fun st w'=>∃i:Nat,st=(at0 sp,srcs,(fr:Int),dst,row,((row.len:Nat):Int),(i:Int),())∧i≤r.length∧Win w' dst g o cs (sumPre l.length r (cutM fr (fr+l.length) S) i)∧Mo (fun b=>b=g) w w') (fun st _=>(((row.len:Nat):Int)-st.2.2.2.2.2.2.1).toNat) ?_
  ⟨0,rfl,Nat.zero_le _,by unfold sumPre;simpa using hW1,hm1⟩
 rintro k _ w2 ⟨i,rfl,hi,hW2,hm2⟩ hk
 unfold kS_sum.b1
 dsimp only at hk ⊢
 refine abZ (fun hlt=>?_) (fun hge=>?_)
 ·have hir:i<r.length:=by omega
  obtain⟨c,hc⟩:=atx hir
  obtain⟨x,hx⟩:=atx (l:=S) (i:=i) (by omega)
  obtain⟨h,hgi⟩:=atx (l:=hs) (i:=i) (by rw[hS.len];omega)
  have hxn:=hn x (List.mem_of_getElem? hx)
  have hcx:(cutM fr (fr+l.length) S)[i]? =some ((x.take (fr+l.length)).drop fr):=by unfold cutM;rw[List.getElem?_map,hx];rfl
  refine byZ (hr.mo hm2 (fun a ha=>hrg _ (aYZ ha))) hc ?_
  have hm3:=hm2.ex (Ex.drew w2)
  have hS3:MatR w2.drew srcs hs S:=hS.mo hm3 hS1 hS2
  have hK3:SetH w2.drew sp b kb:=hK.mo hm3 hsp hkb
  refine asZ (fun w'=>SetH w' sp b kb∧MatR w' srcs hs S) ⟨hK3,hS3⟩ ?_
  refine agZ ?_
  refine akZ (c:=.any) (x:=kerV b kb) (fun w' h=>h.1.has) (by kernel_rfl) rfl ?_
  refine aQZ hS3.hdr (fun w' h=>h.2.hdr) hgi ?_
  have hrow:=hS3.row i h x hgi hx
  have hhl:=hrow.1
  have hhc:=hrow.2.1
  rw[adZ (by omega) (by omega)]
  refine bKZ fr (fr+l.length) tB sB (.inr ⟨_,rfl⟩) (.inr ⟨.i64,by rw[hdl];norm_cast⟩) (by omega) (by omega) ?_
  refine Nx_kn ⟨⟨hK3,hS3⟩,?_⟩
  have hW3:=hW2.ex (Ex.drew w2)
  have hpl:=sumPre_len (r:=r) i hcn
  have hadd:=ker_add (c:=c) hK3.le hK3.ker hkb hW3 (bTZ hrow (a:=fr) (b:=fr+l.length) (by omega) (by omega)) (by rw[List.length_drop,List.length_take,hpl];omega) (fun b hb=>hS2 i h hgi b (cut_in hb)) (by rw[hpl];omega)
  have hadd' : Nx Tryz.prog (callMethod (kerV b kb) "MulAdd" #[f8v c, .slice dst.base dst.len dst.cap, .slice (beZ h fr (fr + l.length)).base (beZ h fr (fr + l.length)).len (beZ h fr (fr + l.length)).cap]) (.one (.at (.int .i64))) (fun x' w' => (SetH w' sp b kb ∧ MatR w' srcs hs S) ∧ kS_sum.j1 R k (at0 sp) srcs (fr : Int) dst row ((row.len : Nat) : Int) (i : Int) w') w2.drew := by
   have fin:∀(x':Int) (w':World),(x'=0∧Win w' dst g o cs (aUZ ((x.take (fr+l.length)).drop fr) c (sumPre l.length r (cutM fr (fr+l.length) S) i))∧Mo (fun b=>b=g) w2.drew w')→(SetH w' sp b kb∧MatR w' srcs hs S)∧kS_sum.j1 R k (at0 sp) srcs (fr:Int) dst row ((row.len:Nat):Int) (i:Int) w':=by
    rintro x' w' ⟨_,h5,m5⟩
    refine⟨⟨hK3.mo m5 hsp hkb,hS3.mo m5 hS1 hS2⟩,?_⟩
    unfold kS_sum.j1
    rw[←sumPre_succ hc hcx]at h5
    rw[adZ (by omega) (by omega),show(i:Int)+1=((i+1:Nat):Int) by omega]
    exact hk _ _ ⟨i+1,rfl,by omega,h5,Mo.trans hm3 m5 (fun _=>id) (fun _ _=>id)⟩ (by dsimp only;omega)
   rcases hadd with ⟨y,w',h1,h2⟩ | ⟨f,args,w',h1,h2⟩ | ⟨q,args,w',h1,h2⟩
   ·exact .inl ⟨y,w',h1,fin y w' h2⟩
   ·exact .inr (.inl ⟨f,args,w',h1,aeZ h2 fin⟩)
   ·exact .inr (.inr ⟨q,args,w',h1,Rows.mono h2 fun v w'' ⟨y,e,hy⟩=>⟨y,e,fin y w'' hy⟩⟩)
  exact hadd'
 ·have hir:i=r.length:=by omega
  subst hir
  rw[sumPre_all (by rw[hcl];exact hlen)]at hW2
  subst hRR
  exact⟨(),rfl,hW2,hm2⟩
theorem kwithin_gv{w:World}{fr to n:Nat}(h1:fr≤to)(h2:to≤n):Gv Tryz.prog 75 #[.agg #[.int .i64 (fr:Int),.int .i64 (to:Int)],.int .i64 (n:Int)] (.int .i64 0) w:=by
 refine kernel_within.run _ ((fr:Int),(to:Int),()) (n:Int) w ?_
 unfold kernel_within.M
 refine bcZ fun w1 hB hx=>?_
 have e:(⟨w.heap.size,0,none⟩:Addr).add 1=⟨w.heap.size,1,none⟩:=rfl
 refine ajZ (c:=.int .i64) (x:=(fr:Int)) hB (by kernel_rfl) rfl ?_
 refine abZ (fun h=>by omega) (fun _=>?_)
 rw[e]
 refine ajZ (c:=.int .i64) (x:=(to:Int)) hB (by kernel_rfl) rfl ?_
 refine ajZ (c:=.int .i64) (x:=(fr:Int)) hB (by kernel_rfl) rfl ?_
 refine abZ (fun h=>by omega) (fun _=>?_)
 refine ajZ (c:=.int .i64) (x:=(to:Int)) hB (by kernel_rfl) rfl ?_
 unfold kernel_within.j1
 refine abZ (fun h=>by omega) (fun _=>⟨rfl,hx⟩)
def Len(n:Nat)(hs:List Sl):Prop:=∀h∈hs,h.len=n
theorem MatR.lenS{w:World}{s:Sl}{hs:List Sl}{M:Mtx}{n:Nat}(h:MatR w s hs M)(hn:∀x∈M,x.length=n):Len n hs:=by
 intro g hg
 obtain⟨i,hi⟩:=List.mem_iff_getElem?.1 hg
 have hl:=(List.getElem?_eq_some_iff.1 hi).1
 obtain⟨x,hx⟩:=atx (l:=M) (i:=i) (by rw[←h.len];exact hl)
 have:=(h.row i g _ hi hx).1
 rw[this]
 exact hn _ (List.mem_of_getElem? hx)
theorem fits_gv{w:World}{sp b kb fr to n:Nat}{rows srcs dsts:Sl}{hr hs hd:List Sl}(hK:SetH w sp b kb)(hA:Rds slV w rows hr)(hS:Rds slV w srcs hs)(hD:Rds slV w dsts hd)(hal:Len hs.length hr)(hsl:Len n hs)(hdl:Len n hd)(hrd:hr.length=hd.length)(hs1:1≤hs.length)
  (hl1:hr.length≤65536) (hl2:hs.length≤65536) (hn:n≤140737488355328) (h1:fr≤to) (h2:to≤n):
  Gv Tryz.prog 56 #[.pointer (at0 sp),.slice rows.base rows.len rows.cap,.slice srcs.base srcs.len srcs.cap,.slice dsts.base dsts.len dsts.cap,.agg #[.int .i64 (fr:Int),.int .i64 (to:Int)]] (.int .i64 0) w:=by
 refine kS_fits.run _ (at0 sp) rows srcs dsts ((fr:Int),(to:Int),()) w ?_
 unfold kS_fits.M
 have e1:=hA.1
 have e2:=hS.1
 have e3:=hD.1
 refine bcZ fun w1 hB hx1=>?_
 refine Pu_setnil (aAZ (agZ ?_))
 refine ajZ (c:=.any) (x:=kerV b kb) (hK.ex hx1).has (by kernel_rfl) rfl (Pu_kn ?_)
 unfold kS_fits.j1
 refine aAZ (aEZ (fun h=>by omega) (fun _=>?_))
 generalize w.heap.size=ab at hB ⊢
 unfold kS_fits.l1
 refine acZ (fun st w'=>∃i:Nat,st=(srcs,dsts,⟨ab,0,none⟩,rows,((rows.len:Nat):Int),(i:Int),())∧i≤hr.length∧w'=w1) (fun st _=>(((rows.len:Nat):Int)-st.2.2.2.2.2.1).toNat) ?_ ⟨0,rfl,Nat.zero_le _,rfl⟩
 rintro k _ w2 ⟨i,rfl,hi,rfl⟩ hk
 unfold kS_fits.b1
 dsimp only at hk ⊢
 refine abZ (fun hlt=>?_) (fun hge=>?_)
 ·have hg:hr[i]? =some hr[i]:=List.getElem?_eq_getElem (by omega)
  refine atZ (hA.ex hx1) hg ?_
  have:=hal _ (List.mem_of_getElem? hg)
  refine aEZ (fun h=>by omega) (fun _=>?_)
  rw[adZ (by omega) (by omega),show(i:Int)+1=((i+1:Nat):Int) by omega]
  exact hk _ _ ⟨i+1,rfl,by omega,rfl⟩ (by dsimp only;omega)
 clear hk
 unfold kS_fits.l2
 refine acZ (fun st w'=>∃j:Nat,j≤2∧st=(⟨ab,0,none⟩,(if j=0 then -1 else (n:Int)),(srcs,dsts,()),(j:Int),())∧w'=w2) (fun st _=>((2:Int)-st.2.2.2.1).toNat) ?_ ⟨0,by omega,rfl,rfl⟩
 rintro k _ w3 ⟨j,hj,rfl,rfl⟩ hk
 unfold kS_fits.b2
 dsimp only at hk ⊢
 refine abZ (fun hlt=>?_) (fun hge=>?_)
 ·-- one list
  have list:∀(s:Sl) (hl:List Sl),Rds slV w3 s hl→Len n hl→hl.length≤65536→(j=0→1≤hl.length)→kS_fits.l3 (fun e w'=>e=.returned (.int .i64 0)∧Ex w w') k (⟨ab,0,none⟩,(if j=0 then -1 else (n:Int)),(srcs,dsts,()),(j:Int),s,((s.len:Nat):Int),0,()) w3:=by
   intro s hl hR hL hll h0
   have es:=hR.1
   unfold kS_fits.l3
   refine acZ (fun st w'=>∃i:Nat,st=(⟨ab,0,none⟩,(if j=0∧i=0 then -1 else (n:Int)),(srcs,dsts,()),(j:Int),s,((s.len:Nat):Int),(i:Int),())∧i≤hl.length∧w'=w3) (fun st _=>(((s.len:Nat):Int)-st.2.2.2.2.2.2.1).toNat) ?_ ⟨0,by simp,Nat.zero_le _,rfl⟩
   rintro k3 _ w4 ⟨i,rfl,hi,rfl⟩ hk3
   unfold kS_fits.b3
   dsimp only at hk3 ⊢
   refine abZ (fun hlt=>?_) (fun hge=>?_)
   ·have hg:hl[i]? =some hl[i]:=List.getElem?_eq_getElem (by omega)
    refine atZ hR hg ?_
    have hgl:=hL _ (List.mem_of_getElem? hg)
    have step:kS_fits.j2 (fun e w'=>e=.returned (.int .i64 0)∧Ex w w') k k3 ⟨ab,0,none⟩ (n:Int) hl[i] (srcs,dsts,()) (j:Int) s ((s.len:Nat):Int) (i:Int) w4:=by
     unfold kS_fits.j2
     refine aEZ (fun h=>by omega) (fun _=>?_)
     rw[adZ (by omega) (by omega),show(i:Int)+1=((i+1:Nat):Int) by omega]
     refine hk3 _ _ ⟨i+1,by rw[if_neg (by omega)],by omega,rfl⟩ (by dsimp only;omega)
    refine abZ (fun hneg=>?_) (fun hpos=>?_)
    ·rw[hgl];exact step
    ·have hji:¬(j=0∧i=0):=fun h=>by rw[if_pos h]at hpos;exact hpos (by decide)
     rw[if_neg hji];exact step
   ·have hij:¬(j=0∧i=0):=fun h=>by have:=h0 h.1;omega
    rw[if_neg hij,adZ (by omega) (by omega),show(j:Int)+1=((j+1:Nat):Int) by omega]
    exact hk _ _ ⟨j+1,by omega,by rw[if_neg (by omega)],rfl⟩ (by dsimp only;omega)
  have h01:j=0∨j=1:=by omega
  rcases h01 with rfl | rfl
  ·refine⟨srcs,fun w'=>by kernel_rfl,?_⟩
   exact list srcs hs (hS.ex hx1) hsl hl2 (fun _=>hs1)
  ·refine⟨dsts,fun w'=>by kernel_rfl,?_⟩
   exact list dsts hd (hD.ex hx1) hdl (by omega) (fun h=>by omega)
 ·have hj2:j=2:=by omega
  subst hj2
  refine bxZ (x:=((fr:Int),(to:Int),())) hB (by kernel_rfl) rfl ?_
  have emax:maxI (if 2=0 then -1 else (n:Int)) 0=(n:Int):=by
   rw[if_neg (by decide)]
   unfold maxI
   split <;> omega
  rw[emax]
  refine auZ (d:=.one (.at (.int .i64))) (x:=0) (kwithin_gv h1 h2) fun w4 hx4=>⟨rfl,hx1.trans hx4⟩
theorem xor_ok{w:World}{g o:Nat}{d s:Sl}{cs:List Value}{l ls:List F8}(hW:Win w d g o cs l)(hr:Rds f8v w s ls)(hl:ls.length=l.length)(hg:∀b,SlIn s b→b≠g)(hm:l.length≤140737488355328):
  Cl Tryz.prog 46 #[.slice d.base d.len d.cap,.slice s.base s.len s.cap] (.one (.at (.int .i64))) (fun x w'=>x=0∧Win w' d g o cs (List.zipWith (· ^^^ ·) l ls)∧Mo (fun b=>b=g) w w') w:=by
 refine kernel_Xor.run _ d s w ?_
 generalize hRR:(fun(e:Ending) (w':World)=>∃x:Int,e=.returned ((Sh.one (.at (.int .i64))).enc x)∧x=0∧Win w' d g o cs (List.zipWith (· ^^^ ·) l ls)∧Mo (fun b=>b=g) w w')=R
 unfold kernel_Xor.M
 have e1:=hW.len
 have e2:=hr.1
 refine aEZ (fun h=>by omega) (fun _=>?_)
 have hA:(List.zipWith (· ^^^ ·) l ls).length=l.length:=by rw[List.length_zipWith];omega
 generalize hAe:List.zipWith (· ^^^ ·) l ls=A at hA hRR
 unfold kernel_Xor.l1
 refine acZ (fun st w'=>∃i:Nat,st=(d,s,((s.len:Nat):Int),(i:Int),())∧i≤l.length∧Win w' d g o cs (A.take i++l.drop i)∧Mo (fun b=>b=g) w w') (fun st _=>(((s.len:Nat):Int)-st.2.2.2.1).toNat) ?_ ⟨0,rfl,Nat.zero_le _,by simpa using hW,Mo.refl _ _⟩
 rintro k _ w2 ⟨i,rfl,hi,hW2,hm2⟩ hk
 unfold kernel_Xor.b1
 dsimp only at hk ⊢
 refine abZ (fun hlt=>?_) (fun hge=>?_)
 ·have hil:i<l.length:=by omega
  obtain⟨x,hx⟩:=atx hil
  obtain⟨y,hy⟩:=atx (l:=ls) (i:=i) (by omega)
  have hAi:A[i]? =some (x ^^^ y):=by rw[←hAe,List.getElem?_zipWith,hx,hy]
  refine byZ (hr.mo hm2 (fun a ha=>hg _ (aYZ ha))) hy ?_
  have hcur:(A.take i++l.drop i).length=l.length:=by rw[List.length_append,List.length_take,List.length_drop];omega
  refine byZ hW2.rds (step_get hA hx) ?_
  rw[bXor_f8]
  refine Wu_win hW2 (by omega) rfl fun w3 hW3 hm3=>?_
  rw[step_set hA hAi]at hW3
  rw[adZ (by omega) (by omega),show(i:Int)+1=((i+1:Nat):Int) by omega]
  exact hk _ _ ⟨i+1,rfl,by omega,hW3,Mo.trans hm2 hm3 (fun _=>id) (fun _ _=>id)⟩ (by dsimp only;omega)
 ·have hil:i=l.length:=by omega
  subst hil
  rw[List.drop_length,List.append_nil,List.take_of_length_le (by omega)]at hW2
  subst hRR
  exact⟨0,rfl,rfl,hW2,hm2⟩
end Go.Proofs.YtbiilejgfihohaaGreat
namespace Go.Proofs.YtbiilejgfihohaaGreat
open Go Go.Cu Go.RowKit
def spanR(a b:Nat)(old new:List F8):List F8:=old.take a++(new.take b).drop a++old.drop b
def applyM(a b n:Nat)(A S D:Mtx):Mtx:=List.zipWith (fun r d=>spanR a b d (baZ n r S)) A D
def bMZ(a b:Nat)(col diff:List F8)(D:Mtx):Mtx:=List.zipWith (fun c d=>spanR a b d (aUZ diff c d)) col D
theorem spanR_len{a b:Nat}{old new:List F8}(hab:a≤b)(hb:b≤old.length)(hn:b≤new.length):(spanR a b old new).length=old.length:=by
 unfold spanR
 rw[List.length_append,List.length_append,List.length_take,List.length_drop,List.length_drop,List.length_take];omega
theorem fold_cut(a b:Nat):∀(l:List (F8×List F8)) (acc:List F8),((l.foldl (fun acc p=>aUZ p.2 p.1 acc) acc).take b).drop a=(l.map (fun p=>(p.1,(p.2.take b).drop a))).foldl (fun acc p=>aUZ p.2 p.1 acc) ((acc.take b).drop a)
 | [],acc=>rfl
 | p::l,acc=>by
  rw[List.foldl_cons,fold_cut a b l,List.map_cons,List.foldl_cons]
  congr 1
  rw[←addM_take,←addM_drop]
theorem sumRow_cut{a b n:Nat}{r:List F8}{S:Mtx}(hab:a≤b)(hb:b≤n):baZ (b-a) r (cutM a b S)=((baZ n r S).take b).drop a:=by
 unfold baZ cutM
 rw[fold_cut,List.zip_map_right]
 congr 1
 rw[List.take_replicate,List.drop_replicate,Nat.min_eq_left hb]
theorem stepG{α:Type}{A l:List α}{i:Nat}{x:α}(h:A.length=l.length)(hx:A[i]? =some x):(A.take i++l.drop i).set i x=A.take (i+1)++l.drop (i+1):=by
 have hi:=(List.getElem?_eq_some_iff.1 hx).1
 rw[List.set_append_right _ _ (by rw[List.length_take];omega),List.length_take,Nat.min_eq_left (by omega),Nat.sub_self,List.take_succ,hx,List.drop_eq_getElem_cons (by omega:i<l.length),List.set_cons_zero,List.append_assoc]
 rfl
theorem stepG_get{α:Type}{A l:List α}{i:Nat}{x:α}(h:A.length=l.length)(hx:l[i]? =some x):(A.take i++l.drop i)[i]? =some x:=by
 have hi:=(List.getElem?_eq_some_iff.1 hx).1
 rw[List.getElem?_append_right (by rw[List.length_take];omega),List.length_take,Nat.min_eq_left (by omega),Nat.sub_self,List.getElem?_drop]
 exact hx
def Nd(hd:List Sl)(b:Nat):Prop:=∀(i:Nat) (h:Sl),hd[i]? =some h→¬SlIn h b
structure DsSt(St:World→Mtx→Prop)(hd:List Sl)(Q:World→Prop):Prop where
 read:∀{w D},St w D→Q w
 len:∀{w D},St w D→D.length=hd.length
 own:∀{w D} {i:Nat} {h:Sl} {r:List F8},St w D→hd[i]? =some h→D[i]? =some r→Own f8v 5 0 w h r
 put:∀{w D w'} {i:Nat} {h:Sl} {r:List F8},St w D→hd[i]? =some h→Own f8v 5 0 w' h r→Mo (SlIn h) w w'→St w' (D.set i r)
 ex:∀{w D w'},St w D→Ex w w'→St w' D
theorem slin_one{s:Sl}{g b:Nat}(h:s.base=at0 g)(hb:SlIn s b):b=g:=by
 obtain⟨a,ha,he⟩:=hb
 rw[h]at ha
 cases ha
 exact he.symm
theorem put_span{St:World→Mtx→Prop}{hd:List Sl}{Q:World→Prop}{w:World}{D:Mtx}{i fr to:Nat}{h:Sl}{d:List F8}(hSt:DsSt St hd Q)(h0:St w D)(hh:hd[i]? =some h)(hd':D[i]? =some d)(hd1:1≤d.length)(h1:fr≤to)(h2:to≤d.length):
  ∃g cs,SlIn h g∧g<w.heap.size∧Win w (beZ h fr to) g (0+fr) (bFZ cs 0 d) ((d.take to).drop fr)∧to≤h.cap∧(∀b,SlIn h b→b=g)∧
   ∀(w':World) (m:List F8),m.length=to-fr→Win w' (beZ h fr to) g (0+fr) (bFZ cs 0 d) m→Mo (fun b=>b=g) w w'→St w' (D.set i (d.take fr++m++d.drop to)):=by
 have ho:=hSt.own h0 hh hd'
 obtain⟨g,cs,hsb,hb,hcs,hcm,hW⟩:=win_of_own ho hd1
 have hgi:SlIn h g:=⟨_,hsb,rfl⟩
 refine⟨g,cs,hgi,(ho.base g hgi).2,hW.cut h1 h2,by have:=hW.cap;have:=hW.len;omega,fun b hb=>slin_one hsb hb,fun w' m hm hW' hmo=>?_⟩
 have hback:=hW.back h1 h2 hm hW'
 exact hSt.put h0 hh (hback.own hsb hb hcs hcm) (hmo.weak (fun b _ hb=>by rw[hb];exact hgi))
theorem apply_ok{w:World}{St:World→Mtx→Prop}{sp b kb fr to n:Nat}{rows srcs dsts:Sl}{hr hs hd:List Sl}{A S D:Mtx}(hSt:DsSt St hd (fun w=>SetH w sp b kb∧MatR w rows hr A∧MatR w srcs hs S∧Rds slV w dsts hd))(h0:St w D)
  (n1:Nd hd sp) (n2:Nd hd kb) (n3:∀(i:Nat) (h:Sl),hr[i]? =some h→∀b,SlIn h b→Nd hd b) (n4:∀b,SlIn srcs b→Nd hd b) (n5:∀(i:Nat) (h:Sl),hs[i]? =some h→∀b,SlIn h b→Nd hd b)
  (hA:Shp A D.length S.length) (hS:∀x∈S,x.length=n) (hD:∀x∈D,x.length=n) (hS1:1≤S.length) (hS2:S.length≤65536) (hD2:D.length≤65536) (hn1:1≤n) (hn2:n≤140737488355328) (h1:fr≤to) (h2:to≤n):
  Cl Tryz.prog 45 #[.pointer (at0 sp),.slice rows.base rows.len rows.cap,.slice srcs.base srcs.len srcs.cap,.slice dsts.base dsts.len dsts.cap,.agg #[.int .i64 (fr:Int),.int .i64 (to:Int)]] (.one (.at (.int .i64))) (fun x w'=>x=0∧St w' (applyM fr to n A S D)) w:=by
 refine kS_Apply.run _ (at0 sp) rows srcs dsts ((fr:Int),(to:Int),()) w ?_
 generalize hRR:(fun(e:Ending) (w':World)=>∃x:Int,e=.returned ((Sh.one (.at (.int .i64))).enc x)∧x=0∧St w' (applyM fr to n A S D))=R
 unfold kS_Apply.M
 obtain⟨q1,q2,q3,q4⟩:=hSt.read h0
 have hDl:=hSt.len h0
 have e1:=q2.hdr.1
 refine bcZ fun w1 hB hx1=>?_
 refine bxZ (x:=((fr:Int),(to:Int),())) hB (by kernel_rfl) rfl ?_
 refine auZ (d:=.one (.at (.int .i64))) (x:=0) (fits_gv (q1.ex hx1) (q2.hdr.ex hx1) (q3.hdr.ex hx1) (q4.ex hx1) (by rw[q3.len];exact q2.lenS hA.2) (q3.lenS hS) (fun h hh=>?_) (by rw[q2.len,hA.1];exact hDl) (by rw[q3.len];exact hS1) (by rw[q2.len,hA.1];exact hD2) (by rw[q3.len];exact hS2) (by omega) h1 h2) fun w2 hx2=>?_
 ·obtain⟨i,hi⟩:=List.mem_iff_getElem?.1 hh
  have hl:=(List.getElem?_eq_some_iff.1 hi).1
  obtain⟨x,hx⟩:=atx (l:=D) (i:=i) (by omega)
  rw[(hSt.own h0 hi hx).1]
  exact hD _ (List.mem_of_getElem? hx)
 refine aAZ ?_
 have hB2:=hB.ex hx2
 have hab:Nd hd w.heap.size:=by
  intro i h hh hb
  have hl:=(List.getElem?_eq_some_iff.1 hh).1
  obtain⟨x,hx⟩:=atx (l:=D) (i:=i) (by omega)
  have:=((hSt.own h0 hh hx).base _ hb).2
  omega
 generalize w.heap.size=ab at hB2 hab ⊢
 have hXl:(applyM fr to n A S D).length=D.length:=by unfold applyM;rw[List.length_zipWith,hA.1,Nat.min_self]
 unfold kS_Apply.l1
 refine acZ (fun st w'=>∃i:Nat,st=(at0 sp,srcs,dsts,⟨ab,0,none⟩,rows,((rows.len:Nat):Int),(i:Int),())∧i≤D.length∧St w' ((applyM fr to n A S D).take i++D.drop i)∧Has w' ab [.int .i64 (fr:Int),.int .i64 (to:Int)] 41) (fun st _=>(((rows.len:Nat):Int)-st.2.2.2.2.2.2.1).toNat) ?_
  ⟨0,rfl,Nat.zero_le _,by simpa using hSt.ex h0 (hx1.trans hx2),hB2⟩
 rintro k _ w3 ⟨i,rfl,hi,hS3,hB3⟩ hk
 unfold kS_Apply.b1
 dsimp only at hk ⊢
 have hAl:=hA.1
 have hrl:=q2.len
 refine abZ (fun hlt=>?_) (fun hge=>?_)
 ·have hiD:i<D.length:=by omega
  obtain⟨r,hri⟩:=atx (l:=A) (i:=i) (by omega)
  obtain⟨hrow,hhr⟩:=atx (l:=hr) (i:=i) (by omega)
  obtain⟨h,hhd⟩:=atx (l:=hd) (i:=i) (by omega)
  obtain⟨d,hdi⟩:=atx (l:=D) (i:=i) hiD
  have hdn:=hD _ (List.mem_of_getElem? hdi)
  have hrS:=hA.2 _ (List.mem_of_getElem? hri)
  obtain⟨p1,p2,p3,p4⟩:=hSt.read hS3
  refine atZ p2.hdr hhr ?_
  have hd3:=Ex.drew w3
  have hS4:=hSt.ex hS3 hd3
  have hB4:=hB3.ex hd3
  obtain⟨o1,o2,o3,o4⟩:=hSt.read hS4
  have eadd:(⟨ab,0,none⟩:Addr).add 1=⟨ab,1,none⟩:=rfl
  refine asZ (fun w'=>Rds slV w' dsts hd∧Has w' ab [.int .i64 (fr:Int),.int .i64 (to:Int)] 41) ⟨o4,hB4⟩ ?_
  refine akZ (c:=.int .i64) (x:=(fr:Int)) (fun w' h=>h.2) (by kernel_rfl) rfl ?_
  refine aQZ o4 (fun w' h=>h.1) hhd ?_
  refine akZ (c:=.int .i64) (x:=(fr:Int)) (fun w' h=>h.2) (by kernel_rfl) rfl ?_
  rw[eadd]
  refine akZ (c:=.int .i64) (x:=(to:Int)) (fun w' h=>h.2) (by kernel_rfl) rfl ?_
  obtain⟨g,cs,hgi,hgl,hW,hcap,hg1,hput⟩:=put_span hSt hS4 hhd (stepG_get hXl hdi) (by omega) h1 (by omega)
  refine bKZ fr to tB sB (.inr ⟨_,rfl⟩) (.inr ⟨_,rfl⟩) h1 hcap ?_
  have hlen:((d.take to).drop fr).length=to-fr:=by rw[List.length_drop,List.length_take];omega
  have hne:∀{x:Nat},Nd hd x→x≠g:=fun hx e=>hx i h hhd (e▸hgi)
  refine aeZ (sum_ok o1 (hne n1) (hne n2) (o2.row i _ _ hhr hri) (fun b hb=>hne (n3 i _ hhr b hb)) o3 (fun b hb=>hne (n4 b hb)) (fun j x hj b hb=>hne (n5 j x hj b hb)) hrS (by omega) (fun x hx=>by rw[hlen,hS x hx];omega) hW (by rw[hlen];omega)) ?_
  rintro _ w5 ⟨hW5,hm5⟩
  rw[hlen,show fr+(to-fr)=to by omega,sumRow_cut h1 h2]at hW5
  have hsl:=sumRow_len (row:=r) hS
  have hS5:=hput w5 _ (by rw[List.length_drop,List.length_take,hsl];omega) hW5 hm5
  have hXi:(applyM fr to n A S D)[i]? =some (d.take fr++((baZ n r S).take to).drop fr++d.drop to):=by
   unfold applyM
   rw[List.getElem?_zipWith,hri,hdi]
   rfl
  rw[stepG hXl hXi]at hS5
  refine⟨⟨(hSt.read hS5).2.2.2,hB4.mo hm5 (hne hab)⟩,?_⟩
  rw[adZ (by omega) (by omega),show(i:Int)+1=((i+1:Nat):Int) by omega]
  exact hk _ _ ⟨i+1,rfl,by omega,hS5,hB4.mo hm5 (hne hab)⟩ (by dsimp only;omega)
 ·have hiD:i=D.length:=by omega
  subst hiD
  rw[List.drop_length,List.append_nil,List.take_of_length_le (by omega)]at hS3
  subst hRR
  exact⟨0,rfl,rfl,hS3⟩
theorem dot_ok{w:World}{sp b kb g o n:Nat}{row srcs dst:Sl}{hs:List Sl}{S:Mtx}{r:List F8}{cs:List Value}{l:List F8}(hK:SetH w sp b kb)(hsp:sp≠g)(hkb:kb≠g)(hr:Rds f8v w row r)(hrg:∀b,SlIn row b→b≠g)
  (hS:MatR w srcs hs S) (hS1:∀b,SlIn srcs b→b≠g) (hS2:∀(i:Nat) (h:Sl),hs[i]? =some h→∀b,SlIn h b→b≠g) (hlen:r.length=S.length) (hrl:r.length≤65536) (hn:∀x∈S,x.length=n) (hl:l.length=n) (hW:Win w dst g o cs l) (hm:n≤140737488355328):
  Cl Tryz.prog 62 #[.pointer (at0 sp),.slice row.base row.len row.cap,.slice srcs.base srcs.len srcs.cap,.slice dst.base dst.len dst.cap] (.one (.at (.int .i64))) (fun x w'=>x=0∧Win w' dst g o cs (baZ n r S)∧Mo (fun b=>b=g) w w') w:=by
 refine kS_Dot.run _ (at0 sp) row srcs dst w ?_
 unfold kS_Dot.M
 have e1:=hr.1
 have e2:=hS.hdr.1
 have e3:=hS.len
 have e4:=hW.len
 refine Pu_setnil (aAZ (agZ ?_))
 refine ajZ (c:=.any) (x:=kerV b kb) hK.has (by kernel_rfl) rfl (Pu_kn ?_)
 unfold kS_Dot.j1
 refine aAZ (aEZ (fun h=>by omega) (fun _=>?_))
 unfold kS_Dot.l1
 refine acZ (fun st w'=>∃i:Nat,st=(at0 sp,row,srcs,dst,srcs,((srcs.len:Nat):Int),(i:Int),())∧i≤S.length∧w'=w) (fun st _=>(((srcs.len:Nat):Int)-st.2.2.2.2.2.2.1).toNat) ?_ ⟨0,rfl,Nat.zero_le _,rfl⟩
 rintro k _ w2 ⟨i,rfl,hi,rfl⟩ hk
 unfold kS_Dot.b1
 dsimp only at hk ⊢
 refine abZ (fun hlt=>?_) (fun hge=>?_)
 ·obtain⟨h,hh⟩:=atx (l:=hs) (i:=i) (by omega)
  refine atZ hS.hdr hh ?_
  have:=hS.lenS hn h (List.mem_of_getElem? hh)
  refine aEZ (fun h=>by omega) (fun _=>?_)
  rw[adZ (by omega) (by omega),show(i:Int)+1=((i+1:Nat):Int) by omega]
  exact hk _ _ ⟨i+1,rfl,by omega,rfl⟩ (by dsimp only;omega)
 ·refine aeZ (sum_ok (fr:=0) hK hsp hkb hr hrg hS hS1 hS2 hlen hrl (fun x hx=>by rw[hn x hx];omega) hW (by omega)) ?_
  rintro _ w3 ⟨h3,m3⟩
  refine⟨0,rfl,rfl,?_,m3⟩
  have e:cutM 0 (0+l.length) S=S:=by
   unfold cutM
   refine(List.map_congr_left (g:=id) fun x hx=>?_).trans (List.map_id _)
   rw[List.drop_zero,List.take_of_length_le (by rw[hn x hx];omega)];rfl
  rw[e,hl]at h3
  exact h3
end Go.Proofs.YtbiilejgfihohaaGreat
namespace Go.Proofs.YtbiilejgfihohaaGreat
open Go Go.Cu Go.RowKit
def agreeR(a b n:Nat)(r:List F8)(S:Mtx)(d:List F8):Bool:=decide ((d.take b).drop a=((baZ n r S).take b).drop a)
def agreeM(a b n:Nat)(A S D:Mtx):Bool:=(A.zip D).all (fun p=>agreeR a b n p.1 S p.2)
theorem agreeM_false{a b n i:Nat}{A S D:Mtx}{r d:List F8}(hr:A[i]? =some r)(hd:D[i]? =some d)(h:agreeR a b n r S d=false):agreeM a b n A S D=false:=by
 unfold agreeM
 rw[List.all_eq_false]
 refine⟨(r,d),List.mem_of_getElem? (i:=i) ?_,by rw[h];simp⟩
 rw[List.getElem?_zip_eq_some]
 exact⟨hr,hd⟩
theorem agreeM_true{a b n:Nat}{A S D:Mtx}(h:∀(i:Nat) (r d:List F8),A[i]? =some r→D[i]? =some d→agreeR a b n r S d=true):agreeM a b n A S D=true:=by
 unfold agreeM
 rw[List.all_eq_true]
 intro p hp
 obtain⟨i,hi⟩:=List.mem_iff_getElem?.1 hp
 rw[List.getElem?_zip_eq_some]at hi
 exact h i _ _ hi.1 hi.2
theorem agrees_ok{w:World}{sp b kb fr to n:Nat}{rows srcs dsts:Sl}{hr hs hd:List Sl}{A S D:Mtx}(hK:SetH w sp b kb)(hMA:MatR w rows hr A)(hMS:MatR w srcs hs S)(hMD:MatR w dsts hd D)(hkb:kb<w.heap.size)
  (hA:Shp A D.length S.length) (hS:∀x∈S,x.length=n) (hD:∀x∈D,x.length=n) (hS1:1≤S.length) (hS2:S.length≤65536) (hD2:D.length≤65536) (hn1:1≤n) (hn2:n≤140737488355328) (h1:fr≤to) (h2:to≤n):
  Cl Tryz.prog 36 #[.pointer (at0 sp),.slice rows.base rows.len rows.cap,.slice srcs.base srcs.len srcs.cap,.slice dsts.base dsts.len dsts.cap,.agg #[.int .i64 (fr:Int),.int .i64 (to:Int)]] (.tup [.at .bool,.at (.int .i64)]) (fun x w'=>x=(agreeM fr to n A S D,0,())∧Ex w w') w:=by
 refine kS_Agrees.run _ (at0 sp) rows srcs dsts ((fr:Int),(to:Int),()) w ?_
 generalize hRR:(fun(e:Ending) (w':World)=>∃x:Bool×Int×Unit,e=.returned ((Sh.tup [.at .bool,.at (.int .i64)]).enc x)∧x=(agreeM fr to n A S D,0,())∧Ex w w')=R
 unfold kS_Agrees.M
 have e1:=hMA.hdr.1
 have hAl:=hA.1
 have hrl:=hMA.len
 have hdl:=hMD.len
 have hsl:=hMS.len
 refine bcZ fun w1 hB hx1=>?_
 refine bxZ (x:=((fr:Int),(to:Int),())) hB (by kernel_rfl) rfl ?_
 refine auZ (d:=.one (.at (.int .i64))) (x:=0) (fits_gv (hK.ex hx1) (hMA.hdr.ex hx1) (hMS.hdr.ex hx1) (hMD.hdr.ex hx1) (by rw[hMS.len];exact hMA.lenS hA.2) (hMS.lenS hS) (hMD.lenS hD) (by omega) (by omega) (by omega) (by omega) (by omega) h1 h2) fun w2 hx2=>?_
 refine aAZ ?_
 have hB2:=hB.ex hx2
 have eadd:(⟨w.heap.size,0,none⟩:Addr).add 1=⟨w.heap.size,1,none⟩:=rfl
 rw[eadd]
 refine ajZ (c:=.int .i64) (x:=(to:Int)) hB2 (by kernel_rfl) rfl ?_
 refine ajZ (c:=.int .i64) (x:=(fr:Int)) hB2 (by kernel_rfl) rfl ?_
 have hx12:=hx1.trans hx2
 have hab:=hB2.lt
 refine bOZ (f:=f8v) (z:=0#8) tB iB rfl (to-fr) (by omega) (by omega) (by rw[adZ (by omega) (by omega)];omega) (by rw[adZ (by omega) (by omega)];omega) fun want w3 hw hB3 hx3=>?_
 have hs12:=hx12.size
 have hge:w.heap.size<w2.heap.size:=hab
 have hx13:=hx12.trans hx3
 have hB3':=hB2.ex hx3
 generalize hg:w2.heap.size=g at hw hB3 hge
 have hW3:∃cs,Win w3 want g 0 cs (List.replicate (to-fr) 0#8):=by
  refine⟨(List.replicate (to-fr) 0#8).map f8v,⟨?_,by rw[List.length_map];omega,by rw[hw];simp,by rw[hw];exact Nat.le_refl _,fun _=>by rw[hw]⟩⟩
  have e:bFZ ((List.replicate (to-fr) 0#8).map f8v) 0 (List.replicate (to-fr) 0#8)=(List.replicate (to-fr) 0#8).map f8v:=by
   unfold bFZ
   rw[List.take_zero,List.nil_append,List.drop_of_length_le (by simp),List.append_nil]
  rw[e]
  exact hB3
 obtain⟨cs,hW3⟩:=hW3
 generalize hab':w.heap.size=ab at hB3' hge ⊢
 have hwl:want.len=to-fr:=by rw[hw]
 have old:∀{s:Sl} {l:List F8},Rds f8v w s l→1≤l.length→∀b,SlIn s b→b≠g:=by
  intro s l hr' hl' b hb
  obtain⟨x,hx⟩:=atx (l:=l) (i:=0) (by omega)
  obtain⟨a,ha,hc⟩:=hr'.2.2 0 x hx
  obtain⟨a',ha',he⟩:=hb
  rw[ha]at ha'
  cases ha'
  have:=World.block_lt_of_cell? _ _ hc
  rw[Addr.add_block]at this
  omega
 have oldH:∀{s:Sl} {l:List Sl},Rds slV w s l→1≤l.length→∀b,SlIn s b→b≠g:=by
  intro s l hr' hl' b hb
  obtain⟨x,hx⟩:=atx (l:=l) (i:=0) (by omega)
  obtain⟨a,ha,hc⟩:=hr'.2.2 0 x hx
  obtain⟨a',ha',he⟩:=hb
  rw[ha]at ha'
  cases ha'
  have:=World.block_lt_of_cell? _ _ hc
  rw[Addr.add_block]at this
  omega
 have hspg:sp≠g:=by have:=hK.has.lt;omega
 have hnew:∀{w':World},Mo (fun b=>b=g) w3 w'→Ex w w':=fun m=>hx13.into m (fun i hi=>by rw[hi];omega)
 unfold kS_Agrees.l1
 refine acZ (fun st w'=>∃i:Nat,st=(at0 sp,srcs,dsts,⟨ab,0,none⟩,want,rows,((rows.len:Nat):Int),(i:Int),())∧i≤D.length∧Mo (fun b=>b=g) w3 w'∧(∃l:List F8,l.length=to-fr∧Win w' want g 0 cs l)∧∀(j:Nat) (r d:List F8),j<i→A[j]? =some r→D[j]? =some d→agreeR fr to n r S d=true)
  (fun st _=>(((rows.len:Nat):Int)-st.2.2.2.2.2.2.2.1).toNat) ?_ ⟨0,rfl,Nat.zero_le _,Mo.refl _ _,⟨_,by simp,hW3⟩,fun j _ _ h=>by omega⟩
 rintro k _ w4 ⟨i,rfl,hi,hm4,⟨l,hl,hW4⟩,hall⟩ hk
 unfold kS_Agrees.b1
 dsimp only at hk ⊢
 have hx4:=hnew hm4
 refine abZ (fun hlt=>?_) (fun hge'=>?_)
 ·have hiD:i<D.length:=by omega
  obtain⟨r,hri⟩:=atx (l:=A) (i:=i) (by omega)
  obtain⟨hrow,hhr⟩:=atx (l:=hr) (i:=i) (by omega)
  obtain⟨h,hhd⟩:=atx (l:=hd) (i:=i) (by omega)
  obtain⟨d,hdi⟩:=atx (l:=D) (i:=i) hiD
  have hdn:=hD _ (List.mem_of_getElem? hdi)
  have hrS:=hA.2 _ (List.mem_of_getElem? hri)
  refine atZ (hMA.hdr.ex hx4) hhr ?_
  have hB4:Has w4 ab [.int .i64 (fr:Int),.int .i64 (to:Int)] 41:=hB3'.mo hm4 (by omega)
  refine ajZ (c:=.int .i64) (x:=(fr:Int)) hB4 (by kernel_rfl) rfl ?_
  refine aeZ (sum_ok (hK.ex hx4) hspg (by omega) ((hMA.row i _ _ hhr hri).ex hx4) (old (hMA.row i _ _ hhr hri) (by omega)) (hMS.ex hx4) (oldH hMS.hdr (by omega)) (fun j x hj b hb=>?_) hrS (by omega) (fun x hx=>by rw[hl,hS x hx];omega) hW4 (by omega)) ?_
  ·have hjl:=(List.getElem?_eq_some_iff.1 hj).1
   obtain⟨y,hy⟩:=atx (l:=S) (i:=j) (by omega)
   exact old (hMS.row j _ _ hj hy) (by rw[hS _ (List.mem_of_getElem? hy)];exact hn1) b hb
  rintro _ w5 ⟨hW5,hm5⟩
  rw[hl,show fr+(to-fr)=to by omega,sumRow_cut h1 h2]at hW5
  have hsl:=sumRow_len (row:=r) hS
  have hd5:=Ex.drew w5
  have hm6:Mo (fun b=>b=g) w3 w5.drew:=(Mo.trans hm4 hm5 (fun _=>id) (fun _ _=>id)).ex hd5
  have hx6:=hnew hm6
  have hB6:Has w5.drew ab [.int .i64 (fr:Int),.int .i64 (to:Int)] 41:=hB3'.mo hm6 (by omega)
  have hW6:=hW5.ex hd5
  refine aQZ (hMD.hdr.ex hx6) (fun w' h=>by cases h;exact hMD.hdr.ex hx6) hhd ?_
  refine boZ (ajZ (c:=.int .i64) (x:=(fr:Int)) hB6 (by kernel_rfl) rfl ?_)
  rw[show(⟨ab,0,none⟩:Addr).add 1=⟨ab,1,none⟩ from rfl]
  refine boZ (ajZ (c:=.int .i64) (x:=(to:Int)) hB6 (by kernel_rfl) rfl ?_)
  have hrow6:=(hMD.row i _ _ hhd hdi).ex hx6
  have hhl:=hrow6.1
  have hhc:=hrow6.2.1
  refine bKZ fr to tB sB (.inr ⟨_,rfl⟩) (.inr ⟨_,rfl⟩) h1 (by omega) ?_
  have hcut:=bTZ hrow6 (a:=fr) (b:=to) h1 (by omega)
  generalize hU:(d.take to).drop fr=U at hcut
  generalize hV:((baZ n r S).take to).drop fr=V at hW6
  have hUl:U.length=to-fr:=by rw[←hU,List.length_drop,List.length_take];omega
  have hVl:V.length=to-fr:=by rw[←hV,List.length_drop,List.length_take,hsl];omega
  have hcl:(beZ h fr to).len=to-fr:=rfl
  generalize beZ h fr to=q at hcut hcl
  unfold kS_Agrees.l2
  refine acZ (fun st w'=>∃t:Nat,st=(at0 sp,srcs,dsts,⟨ab,0,none⟩,want,rows,((rows.len:Nat):Int),(i:Int),q,((q.len:Nat):Int),(t:Int),())∧t≤to-fr∧w'=w5.drew∧∀j,j<t→U[j]? =V[j]?)
   (fun st _=>(((q.len:Nat):Int)-st.2.2.2.2.2.2.2.2.2.2.1).toNat) ?_ ⟨0,rfl,Nat.zero_le _,rfl,fun j h=>by omega⟩
  rintro k2 _ w7 ⟨t,rfl,ht,rfl,heq⟩ hk2
  unfold kS_Agrees.b2
  dsimp only at hk2 ⊢
  refine abZ (fun hlt2=>?_) (fun hge2=>?_)
  ·obtain⟨x,hx⟩:=atx (l:=U) (i:=t) (by omega)
   obtain⟨y,hy⟩:=atx (l:=V) (i:=t) (by omega)
   refine byZ hcut hx ?_
   refine byZ hW6.rds hy ?_
   have hxl:=x.isLt
   have hyl:=y.isLt
   refine aEZ (fun hne=>?_) (fun he=>?_)
   ·subst hRR
    refine⟨(false,0,()),rfl,?_,hx6⟩
    rw[agreeM_false hri hdi]
    unfold agreeR
    rw[hU,hV]
    refine decide_eq_false (fun e=>hne ?_)
    rw[e,hy]at hx
    rw[Option.some.inj hx]
   ·have hxy:x=y:=BitVec.eq_of_toNat_eq (by omega)
    rw[adZ (by omega) (by omega),show(t:Int)+1=((t+1:Nat):Int) by omega]
    refine hk2 _ _ ⟨t+1,rfl,by omega,rfl,fun j hj=>?_⟩ (by dsimp only;omega)
    by_cases hjt:j=t
    ·rw[hjt,hx,hy,hxy]
    ·exact heq j (by omega)
  ·have htt:t=to-fr:=by omega
   rw[adZ (by omega) (by omega),show(i:Int)+1=((i+1:Nat):Int) by omega]
   refine hk _ _ ⟨i+1,rfl,by omega,hm6,⟨V,hVl,hW6⟩,fun j r' d' hj hr' hd'=>?_⟩ (by dsimp only;omega)
   by_cases hji:j=i
   ·subst hji
    rw[hri]at hr'
    rw[hdi]at hd'
    cases hr'
    cases hd'
    unfold agreeR
    rw[hU,hV]
    refine decide_eq_true (List.ext_getElem? fun j=>?_)
    by_cases hj2:j<t
    ·exact heq j hj2
    ·rw[List.getElem?_eq_none (by omega),List.getElem?_eq_none (by omega)]
   ·exact hall j r' d' (by omega) hr' hd'
 ·have hiD:i=D.length:=by omega
  subst hRR
  refine⟨(true,0,()),rfl,?_,hx4⟩
  rw[agreeM_true (fun j r d hr' hd'=>hall j r d (by have:=(List.getElem?_eq_some_iff.1 hd').1;omega) hr' hd')]
theorem spread_ok{w:World}{St:World→Mtx→Prop}{sp b kb fr to n:Nat}{column diff dsts:Sl}{hd:List Sl}{col df:List F8}{D:Mtx}(hSt:DsSt St hd (fun w=>SetH w sp b kb∧Rds f8v w column col∧Rds f8v w diff df∧Rds slV w dsts hd))(h0:St w D)
  (n1:Nd hd sp) (n2:Nd hd kb) (n3:∀b,SlIn diff b→Nd hd b)
  (hA:col.length=D.length) (hS:df.length=n) (hD:∀x∈D,x.length=n) (hD2:D.length≤65536) (hn1:1≤n) (hn2:n≤140737488355328) (h1:fr≤to) (h2:to≤n):
  Cl Tryz.prog 47 #[.pointer (at0 sp),.slice column.base column.len column.cap,.slice diff.base diff.len diff.cap,.slice dsts.base dsts.len dsts.cap,.agg #[.int .i64 (fr:Int),.int .i64 (to:Int)]] (.one (.at (.int .i64))) (fun x w'=>x=0∧St w' (bMZ fr to col df D)) w:=by
 refine kS_Spread.run _ (at0 sp) column diff dsts ((fr:Int),(to:Int),()) w ?_
 generalize hRR:(fun(e:Ending) (w':World)=>∃x:Int,e=.returned ((Sh.one (.at (.int .i64))).enc x)∧x=0∧St w' (bMZ fr to col df D))=R
 unfold kS_Spread.M
 obtain⟨q1,q2,q3,q4⟩:=hSt.read h0
 have hDl:=hSt.len h0
 have e2:=q2.1
 have e3:=q3.1
 have e4:=q4.1
 refine bcZ fun w1 hB hx1=>?_
 refine Pu_setnil (aAZ (agZ ?_))
 refine ajZ (c:=.any) (x:=kerV b kb) (q1.ex hx1).has (by kernel_rfl) rfl (Pu_kn ?_)
 unfold kS_Spread.j1
 refine aAZ (aEZ (fun h=>by omega) (fun _=>?_))
 have hab:Nd hd w.heap.size:=by
  intro i h hh hb
  have hl:=(List.getElem?_eq_some_iff.1 hh).1
  obtain⟨x,hx⟩:=atx (l:=D) (i:=i) (by omega)
  have:=((hSt.own h0 hh hx).base _ hb).2
  omega
 generalize w.heap.size=ab at hB hab ⊢
 unfold kS_Spread.l1
 refine acZ (fun st w'=>∃i:Nat,st=(at0 sp,column,diff,dsts,⟨ab,0,none⟩,dsts,((dsts.len:Nat):Int),(i:Int),())∧i≤D.length∧w'=w1) (fun st _=>(((dsts.len:Nat):Int)-st.2.2.2.2.2.2.2.1).toNat) ?_ ⟨0,rfl,Nat.zero_le _,rfl⟩
 rintro k1 _ w2 ⟨i,rfl,hi,rfl⟩ hk1
 unfold kS_Spread.b1
 dsimp only at hk1 ⊢
 refine abZ (fun hlt=>?_) (fun hge=>?_)
 ·obtain⟨h,hhd⟩:=atx (l:=hd) (i:=i) (by omega)
  obtain⟨d,hdi⟩:=atx (l:=D) (i:=i) (by omega)
  refine atZ (q4.ex hx1) hhd ?_
  have:=(hSt.own h0 hhd hdi).1
  have:=hD _ (List.mem_of_getElem? hdi)
  refine aEZ (fun h=>by omega) (fun _=>?_)
  rw[adZ (by omega) (by omega),show(i:Int)+1=((i+1:Nat):Int) by omega]
  exact hk1 _ _ ⟨i+1,rfl,by omega,rfl⟩ (by dsimp only;omega)
 clear hk1
 refine bxZ (x:=((fr:Int),(to:Int),())) hB (by kernel_rfl) rfl ?_
 refine auZ (d:=.one (.at (.int .i64))) (x:=0) (kwithin_gv h1 (by omega)) fun w2 hx2=>aAZ ?_
 have hXl:(bMZ fr to col df D).length=D.length:=by unfold bMZ;rw[List.length_zipWith,hA,Nat.min_self]
 unfold kS_Spread.l2
 refine acZ (fun st w'=>∃i:Nat,st=(at0 sp,diff,dsts,⟨ab,0,none⟩,column,((column.len:Nat):Int),(i:Int),())∧i≤D.length∧St w' ((bMZ fr to col df D).take i++D.drop i)∧Has w' ab [.int .i64 (fr:Int),.int .i64 (to:Int)] 41) (fun st _=>(((column.len:Nat):Int)-st.2.2.2.2.2.2.1).toNat) ?_
  ⟨0,rfl,Nat.zero_le _,by simpa using hSt.ex h0 (hx1.trans hx2),hB.ex hx2⟩
 rintro k _ w3 ⟨i,rfl,hi,hS3,hB3⟩ hk
 unfold kS_Spread.b2
 dsimp only at hk ⊢
 refine abZ (fun hlt=>?_) (fun hge=>?_)
 ·have hiD:i<D.length:=by omega
  obtain⟨c,hci⟩:=atx (l:=col) (i:=i) (by omega)
  obtain⟨h,hhd⟩:=atx (l:=hd) (i:=i) (by omega)
  obtain⟨d,hdi⟩:=atx (l:=D) (i:=i) hiD
  have hdn:=hD _ (List.mem_of_getElem? hdi)
  obtain⟨p1,p2,p3,p4⟩:=hSt.read hS3
  refine byZ p2 hci ?_
  have hd3:=Ex.drew w3
  have hS4:=hSt.ex hS3 hd3
  have hB4:=hB3.ex hd3
  obtain⟨o1,o2,o3,o4⟩:=hSt.read hS4
  refine asZ (fun w'=>SetH w' sp b kb∧Rds slV w' dsts hd∧Has w' ab [.int .i64 (fr:Int),.int .i64 (to:Int)] 41) ⟨o1,o4,hB4⟩ ?_
  refine agZ ?_
  refine akZ (c:=.any) (x:=kerV b kb) (fun w' h=>h.1.has) (by kernel_rfl) rfl ?_
  refine aQZ o4 (fun w' h=>h.2.1) hhd ?_
  refine akZ (c:=.int .i64) (x:=(fr:Int)) (fun w' h=>h.2.2) (by kernel_rfl) rfl ?_
  rw[show(⟨ab,0,none⟩:Addr).add 1=⟨ab,1,none⟩ from rfl]
  refine akZ (c:=.int .i64) (x:=(to:Int)) (fun w' h=>h.2.2) (by kernel_rfl) rfl ?_
  obtain⟨g,cs,hgi,hgl,hW,hcap,hg1,hput⟩:=put_span hSt hS4 hhd (stepG_get hXl hdi) (by omega) h1 (by omega)
  refine bKZ fr to tB sB (.inr ⟨_,rfl⟩) (.inr ⟨_,rfl⟩) h1 hcap ?_
  refine akZ (c:=.int .i64) (x:=(fr:Int)) (fun w' h=>h.2.2) (by kernel_rfl) rfl ?_
  refine akZ (c:=.int .i64) (x:=(to:Int)) (fun w' h=>h.2.2) (by kernel_rfl) rfl ?_
  have hdc:=q3.2.1
  refine bKZ fr to tB sB (.inr ⟨_,rfl⟩) (.inr ⟨_,rfl⟩) h1 (by omega) ?_
  refine Nx_kn ⟨⟨o1,o4,hB4⟩,?_⟩
  have hlen:((d.take to).drop fr).length=to-fr:=by rw[List.length_drop,List.length_take];omega
  have hne:∀{x:Nat},Nd hd x→x≠g:=fun hx e=>hx i h hhd (e▸hgi)
  have hadd:=ker_add (c:=c) o1.le o1.ker (hne n2) hW (bTZ o3 (a:=fr) (b:=to) h1 (by omega)) (by rw[hlen,List.length_drop,List.length_take];omega) (fun b hb=>hne (n3 b (cut_in hb))) (by rw[hlen];omega)
  have hXi:(bMZ fr to col df D)[i]? =some (d.take fr++aUZ ((df.take to).drop fr) c ((d.take to).drop fr)++d.drop to):=by
   unfold bMZ
   rw[List.getElem?_zipWith,hci,hdi]
   show some (spanR fr to d (aUZ df c d))=_
   unfold spanR
   rw[←addM_take,←addM_drop]
  have fin:∀(x':Int) (w':World),(x'=0∧Win w' (beZ h fr to) g (0+fr) (bFZ cs 0 d) (aUZ ((df.take to).drop fr) c ((d.take to).drop fr))∧Mo (fun b=>b=g) w3.drew w')→(SetH w' sp b kb∧Rds slV w' dsts hd∧Has w' ab [.int .i64 (fr:Int),.int .i64 (to:Int)] 41)∧k (at0 sp,diff,dsts,⟨ab,0,none⟩,column,((column.len:Nat):Int),(IntKind.wrap .i64 ((i:Int)+1)),()) w':=by
   rintro x' w5 ⟨_,hW5,hm5⟩
   have hS5:=hput w5 _ (by rw[btZ (by rw[hlen,List.length_drop,List.length_take];omega),List.length_drop,List.length_take];omega) hW5 hm5
   rw[stepG hXl hXi]at hS5
   have hr5:=hSt.read hS5
   refine⟨⟨hr5.1,hr5.2.2.2,hB4.mo hm5 (hne hab)⟩,?_⟩
   rw[adZ (by omega) (by omega),show(i:Int)+1=((i+1:Nat):Int) by omega]
   exact hk _ _ ⟨i+1,rfl,by omega,hS5,hB4.mo hm5 (hne hab)⟩ (by dsimp only;omega)
  rcases hadd with ⟨y,w',h1,h2⟩ | ⟨f,args,w',h1,h2⟩ | ⟨q,args,w',h1,h2⟩
  ·exact .inl ⟨y,w',h1,fin y w' h2⟩
  ·exact .inr (.inl ⟨f,args,w',h1,aeZ h2 fin⟩)
  ·exact .inr (.inr ⟨q,args,w',h1,Rows.mono h2 fun v w'' ⟨y,e,hy⟩=>⟨y,e,fin y w'' hy⟩⟩)
 ·have hiD:i=D.length:=by omega
  subst hiD
  rw[List.drop_length,List.append_nil,List.take_of_length_le (by omega)]at hS3
  subst hRR
  exact⟨0,rfl,rfl,hS3⟩
end Go.Proofs.YtbiilejgfihohaaGreat
namespace Go.Proofs.YtbiilejgfihohaaGreat
open Go Go.Cu Go.RowKit
theorem family_gv{f:Int}(hf:f=0∨f=1)(w:World):Gv Tryz.prog 114 #[.int .i64 f] (.bool true) w:=by
 refine shape_family.run _ f w ?_
 unfold shape_family.M
 refine abZ (fun _=>⟨?_,Ex.refl _⟩) (fun h=>by omega)
 rw[decide_eq_true (by omega)]
theorem params_gv{f:Int}{k m:Nat}(hf:f=0∨f=1)(hk1:1≤k)(hm1:1≤m)(hkm:k+m≤256)(w:World):Gv Tryz.prog 87 #[.int .i64 f,.int .i64 (k:Int),.int .i64 (m:Int)] (.int .i64 0) w:=by
 refine shape_Params.run _ f (k:Int) (m:Int) w ?_
 unfold shape_Params.M
 refine auZ (d:=.one (.at .bool)) (x:=true) (family_gv hf w) fun w1 hx1=>aAZ ?_
 refine abZ (fun h=>by omega) (fun _=>abZ (fun h=>by omega) (fun _=>abZ (fun h=>by omega) (fun _=>?_)))
 unfold shape_Params.j1
 refine abZ (fun h=>by omega) (fun _=>aEZ (fun _=>?_) (fun h=>by omega))
 unfold shape_Params.j2
 refine abZ (fun h=>by rw[adZ (by omega) (by omega)]at h;omega) (fun _=>aJZ (fun h=>by omega) (fun _=>?_))
 unfold shape_Params.j3
 exact aAZ ⟨rfl,hx1⟩
theorem odd_gv{f:Int}{n:Int}(hf:f=0∨f=1)(w:World):Gv Tryz.prog 60 #[.int .i64 f,.int .i64 n] (.bool false) w:=by
 refine shape_odd.run _ f n w ?_
 unfold shape_odd.M
 exact aJZ (fun h=>by omega) (fun _=>⟨rfl,Ex.refl _⟩)
theorem counted_gv{f:Int}{k m:Nat}{s:Sl}(hf:f=0∨f=1)(hk1:1≤k)(hm1:1≤m)(hkm:k+m≤256)(hs:s.len=k+m)(w:World):Gv Tryz.prog 58 #[.int .i64 f,.int .i64 (k:Int),.int .i64 (m:Int),.slice s.base s.len s.cap] (.int .i64 0) w:=by
 refine shape_counted.run _ f (k:Int) (m:Int) s w ?_
 unfold shape_counted.M
 refine auZ (d:=.one (.at (.int .i64))) (x:=0) (params_gv hf hk1 hm1 hkm w) fun w1 hx1=>aAZ ?_
 refine aEZ (fun h=>by rw[adZ (by omega) (by omega)]at h;omega) (fun _=>⟨rfl,hx1⟩)
def aLZ(hs:List Sl)(i:Nat):List Nat:=(List.range i).filter (fun j=>decide (∃h,hs[j]? =some h∧h.len=0))
theorem emptyL_succ(hs:List Sl)(i:Nat):aLZ hs (i+1)=aLZ hs i++(if ∃h,hs[i]? =some h∧h.len=0 then [i] else []):=by
 unfold aLZ
 rw[List.range_succ,List.filter_append]
 congr 1
 by_cases h:∃h,hs[i]? =some h∧h.len=0
 ·simp[h]
 ·simp[h]
theorem emptyL_len(hs:List Sl)(i:Nat):(aLZ hs i).length≤i:=by
 unfold aLZ
 have:=List.length_filter_le (fun j=>decide (∃h,hs[j]? =some h∧h.len=0)) (List.range i)
 rwa [List.length_range]at this
theorem append_one{w0 w:World}{q:Sl}{l:List Nat}{i:Nat}{K:Sl→World→Prop}(ho:Own aOZ 3 w0.heap.size w q l)(hx:Ex w0 w)(hl:l.length≤65536)(hk:∀q' w',Own aOZ 3 w0.heap.size w' q' (l++[i])→Ex w0 w'→K q' w'):
  Wr Tryz.prog (Instr.buildSlice 25 1 #[(0,(.int .i64 (i:Int)))]) (.one (.at .sl)) (fun(x9:Sl) w10=>Wr Tryz.prog (Builtin.append_ #[25,25] 25 #[.slice q.base q.len q.cap,.slice x9.base x9.len x9.cap]) (.one (.at .sl)) K w10) w:=by
 refine bvZ (f:=aOZ) (e:=3) (base:=w.heap.size) [i] (by kernel_rfl) (Nat.le_refl _) (by simp) fun s4 w4 ho4 hx4 _=>?_
 refine aGZ (f:=aOZ) tI iI rfl (ho.ex hx4) ho4.rds (fun _=>rfl) (by simp;omega) (by simp;omega) (Nat.le_trans hx.size hx4.size) fun q' w5 ho5 hm5 hb5=>?_
 exact hk q' w5 ho5 ((hx.trans hx4).into hm5 (fun b hb=>(ho.base b hb).1))
theorem lengths_ok{w:World}{s:Sl}{hs:List Sl}{n:Nat}(hr:Rds slV w s hs)(hl:hs.length≤65536)(hn:∀h∈hs,h.len=0∨h.len=n)(hn1:1≤n)(hn2:n≤140737488355328):
  Cl Tryz.prog 59 #[.slice s.base s.len s.cap] (.tup [.at (.int .i64),.at .sl,.at .bool]) (fun x w'=>∃se,x=((if (aLZ hs hs.length).length=hs.length then 0 else (n:Int)),se,true,())∧Own aOZ 3 w.heap.size w' se (aLZ hs hs.length)∧Ex w w') w:=by
 refine shape_lengths.run _ s w ?_
 unfold shape_lengths.M shape_lengths.l1
 have hsl:=hr.1
 refine acZ (fun st w'=>∃(i:Nat) (q:Sl),st=((if (aLZ hs i).length=i then 0 else (n:Int)),q,true,s,((s.len:Nat):Int),(i:Int),())∧i≤hs.length∧Own aOZ 3 w.heap.size w' q (aLZ hs i)∧Ex w w') (fun st _=>(((s.len:Nat):Int)-st.2.2.2.2.2.1).toNat) ?_
  ⟨0,⟨none,0,0⟩,rfl,Nat.zero_le _,Own.nil _ _ _ _,Ex.refl _⟩
 rintro k _ w1 ⟨i,q,rfl,hi,ho,hx⟩ hk
 unfold shape_lengths.b1
 dsimp only at hk ⊢
 refine abZ (fun hlt=>?_) (fun hge=>?_)
 ·obtain⟨h,hh⟩:=atx (l:=hs) (i:=i) (by omega)
  refine atZ (hr.ex hx) hh ?_
  have hel:=emptyL_len hs i
  have next:∀(q':Sl) (len:Int) (w':World),Own aOZ 3 w.heap.size w' q' (aLZ hs (i+1))→Ex w w'→len=(if (aLZ hs (i+1)).length=i+1 then 0 else (n:Int))→shape_lengths.j1 (fun e w'=>∃x:Int×Sl×Bool×Unit,e=.returned ((Sh.tup [.at (.int .i64),.at .sl,.at .bool]).enc x)∧∃se,x=((if (aLZ hs hs.length).length=hs.length then 0 else (n:Int)),se,true,())∧Own aOZ 3 w.heap.size w' se (aLZ hs hs.length)∧Ex w w') k len q' true s ((s.len:Nat):Int) (i:Int) w':=by
   intro q' len w' h1 h2 h3
   unfold shape_lengths.j1
   subst h3
   rw[adZ (by omega) (by omega),show(i:Int)+1=((i+1:Nat):Int) by omega]
   exact hk _ _ ⟨i+1,q',rfl,by omega,h1,h2⟩ (by dsimp only;omega)
  refine aJZ (fun h0=>?_) (fun h0=>?_)
  ·have he:aLZ hs (i+1)=aLZ hs i++[i]:=by rw[emptyL_succ,if_pos ⟨h,hh,by omega⟩]
   refine append_one ho hx (by omega) fun q' w2 ho2 hx2=>?_
   refine next q' _ w2 (by rw[he];exact ho2) hx2 ?_
   rw[he,List.length_append,List.length_singleton]
   by_cases e:(aLZ hs i).length=i
   ·rw[if_pos e,if_pos (by omega)]
   ·rw[if_neg e,if_neg (by omega)]
  ·have he:aLZ hs (i+1)=aLZ hs i:=by rw[emptyL_succ,if_neg (fun⟨h',hh',h0'⟩=>by rw[hh]at hh';cases hh';omega),List.append_nil]
   have hhn:h.len=n:=(hn h (List.mem_of_getElem? hh)).resolve_left (by omega)
   have hlast:(if (aLZ hs (i+1)).length=i+1 then (0:Int) else (n:Int))=n:=by rw[if_neg (by rw[he];omega)]
   refine aJZ (fun hz=>?_) (fun hz=>aEZ (fun hne=>?_) (fun _=>?_))
   ·exact next q _ w1 (by rw[he];exact ho) hx (by rw[hlast];omega)
   ·have:(if (aLZ hs i).length=i then (0:Int) else (n:Int))=n:=by
     by_cases e:(aLZ hs i).length=i
     ·rw[if_pos e]at hz;exact absurd rfl hz
     ·rw[if_neg e]
    omega
   ·refine next q _ w1 (by rw[he];exact ho) hx ?_
    rw[hlast]
    by_cases e:(aLZ hs i).length=i
    ·rw[if_pos e]at hz;exact absurd rfl hz
    ·rw[if_neg e]
 ·have hil:i=hs.length:=by omega
  subst hil
  exact⟨_,rfl,q,rfl,ho,hx⟩
theorem emptyL_none{hs:List Sl}{n:Nat}(hn1:1≤n)(h:Len n hs)(i:Nat):aLZ hs i=[]:=by
 unfold aLZ
 rw[List.filter_eq_nil_iff]
 intro j hj hd
 obtain⟨g,hg,h0⟩:=of_decide_eq_true hd
 have:=h g (List.mem_of_getElem? hg)
 omega
theorem whole_ok{w:World}{s:Sl}{hs:List Sl}{f:Int}{k m n:Nat}(hr:Rds slV w s hs)(hl:hs.length=k+m)(hn:Len n hs)(hn1:1≤n)(hn2:n≤140737488355328)(hf:f=0∨f=1)(hk1:1≤k)(hm1:1≤m)(hkm:k+m≤256):
  Cl Tryz.prog 55 #[.int .i64 f,.int .i64 (k:Int),.int .i64 (m:Int),.slice s.base s.len s.cap] (.tup [.at (.int .i64),.at (.int .i64)]) (fun x w'=>x=((n:Int),0,())∧Ex w w') w:=by
 refine shape_Whole.run _ f (k:Int) (m:Int) s w ?_
 unfold shape_Whole.M
 have hsl:=hr.1
 refine auZ (d:=.one (.at (.int .i64))) (x:=0) (counted_gv hf hk1 hm1 hkm (by omega) w) fun w1 hx1=>aAZ ?_
 refine aeZ (lengths_ok (hr.ex hx1) (by omega) (fun h hh=>.inr (hn h hh)) hn1 hn2) ?_
 rintro _ w2 ⟨se,rfl,ho,hx2⟩
 have he:=emptyL_none hn1 hn hs.length
 rw[he]at ho
 have hse:=ho.1
 dsimp only
 refine abZ (fun h=>by rw[hse]at h;exact absurd h (by decide)) (fun _=>aAZ ?_)
 refine auZ (d:=.one (.at .bool)) (x:=false) (odd_gv hf w2) fun w3 hx3=>aAZ ?_
 refine⟨((n:Int),0,()),?_,rfl,(hx1.trans hx2).trans hx3⟩
 rw[he,if_neg (by simp;omega)]
 rfl
def aKZ(hs:List Sl)(i:Nat):List Nat:=(List.range i).filter (fun j=>decide (∃h,hs[j]? =some h∧h.len≠0))
theorem givenL_succ(hs:List Sl)(i:Nat):aKZ hs (i+1)=aKZ hs i++(if ∃h,hs[i]? =some h∧h.len≠0 then [i] else []):=by
 unfold aKZ
 rw[List.range_succ,List.filter_append]
 congr 1
 by_cases h:∃h,hs[i]? =some h∧h.len≠0
 ·simp[h]
 ·simp[h]
theorem givenL_len(hs:List Sl)(i:Nat):(aKZ hs i).length≤i:=by
 unfold aKZ
 have:=List.length_filter_le (fun j=>decide (∃h,hs[j]? =some h∧h.len≠0)) (List.range i)
 rwa [List.length_range]at this
theorem fresh_shape_ok{w:World}{s sf:Sl}{hs hf':List Sl}{f:Int}{k m n:Nat}(hr:Rds slV w s hs)(hl:hs.length=k+m)(hn:Len n hs)(hrf:Rds slV w sf hf')(hfl:hf'.length=k)(hfn:∀h∈hf',h.len=0∨h.len=n)(hn1:1≤n)(hn2:n≤140737488355328)(hf:f=0∨f=1)(hk1:1≤k)(hm1:1≤m)(hkm:k+m≤256):
  Cl Tryz.prog 37 #[.int .i64 f,.int .i64 (k:Int),.int .i64 (m:Int),.slice s.base s.len s.cap,.slice sf.base sf.len sf.cap] (.tup [.at (.int .i64),.at .sl,.at (.int .i64)]) (fun x w'=>∃sg,x=((n:Int),sg,0,())∧Own aOZ 3 w.heap.size w' sg (aKZ hf' k)∧Ex w w') w:=by
 refine shape_Fresh.run _ f (k:Int) (m:Int) s sf w ?_
 generalize hRR:(fun(e:Ending) (w':World)=>∃x:Int×Sl×Int×Unit,e=.returned ((Sh.tup [.at (.int .i64),.at .sl,.at (.int .i64)]).enc x)∧∃sg,x=((n:Int),sg,0,())∧Own aOZ 3 w.heap.size w' sg (aKZ hf' k)∧Ex w w')=R
 unfold shape_Fresh.M
 have hsl:=hr.1
 have hfs:=hrf.1
 refine auZ (d:=.one (.at (.int .i64))) (x:=0) (counted_gv hf hk1 hm1 hkm (by omega) w) fun w1 hx1=>aAZ ?_
 refine aEZ (fun h=>by omega) (fun _=>?_)
 refine aeZ (lengths_ok (hr.ex hx1) (by omega) (fun h hh=>.inr (hn h hh)) hn1 hn2) ?_
 rintro _ w2 ⟨se,rfl,ho,hx2⟩
 have he:=emptyL_none hn1 hn hs.length
 rw[he]at ho ⊢
 have hse:=ho.1
 dsimp only
 rw[if_neg (by simp;omega)]
 refine abZ (fun h=>by rw[hse]at h;exact absurd h (by decide)) (fun _=>?_)
 have hx12:=hx1.trans hx2
 unfold shape_Fresh.l1
 refine acZ (fun st w'=>∃(i:Nat) (q:Sl),st=(f,(n:Int),true,q,sf,((sf.len:Nat):Int),(i:Int),())∧i≤k∧Own aOZ 3 w.heap.size w' q (aKZ hf' i)∧Ex w w') (fun st _=>(((sf.len:Nat):Int)-st.2.2.2.2.2.2.1).toNat) ?_
  ⟨0,⟨none,0,0⟩,rfl,Nat.zero_le _,Own.nil _ _ _ _,hx12⟩
 rintro kk _ w3 ⟨i,q,rfl,hi,hq,hx3⟩ hk
 unfold shape_Fresh.b1
 dsimp only at hk ⊢
 refine abZ (fun hlt=>?_) (fun hge=>?_)
 ·obtain⟨h,hh⟩:=atx (l:=hf') (i:=i) (by omega)
  refine atZ (hrf.ex hx3) hh ?_
  have hgl:=givenL_len hf' i
  have next:∀(q':Sl) (w':World),Own aOZ 3 w.heap.size w' q' (aKZ hf' (i+1))→Ex w w'→shape_Fresh.j1 R kk f (n:Int) true q' sf ((sf.len:Nat):Int) (i:Int) w':=by
   intro q' w' h1 h2
   unfold shape_Fresh.j1
   rw[adZ (by omega) (by omega),show(i:Int)+1=((i+1:Nat):Int) by omega]
   exact hk _ _ ⟨i+1,q',rfl,by omega,h1,h2⟩ (by dsimp only;omega)
  refine abZ (fun h0=>?_) (fun h0=>?_)
  ·have he:aKZ hf' (i+1)=aKZ hf' i++[i]:=by rw[givenL_succ,if_pos ⟨h,hh,by omega⟩]
   have hhn:h.len=n:=(hfn h (List.mem_of_getElem? hh)).resolve_left (by omega)
   refine append_one hq hx3 (by omega) fun q' w4 ho4 hx4=>?_
   refine Cd_t ?_
   have e:(((h.len:Nat):Int)==(n:Int))=true:=by rw[hhn];simp
   rw[e]
   exact next q' w4 (by rw[he];exact ho4) hx4
  ·have he:aKZ hf' (i+1)=aKZ hf' i:=by rw[givenL_succ,if_neg (fun⟨h',hh',h0'⟩=>by rw[hh]at hh';cases hh';omega),List.append_nil]
   exact next q w3 (by rw[he];exact hq) hx3
 ·have hik:i=k:=by omega
  subst hik
  refine aAZ ?_
  refine auZ (d:=.one (.at .bool)) (x:=false) (odd_gv hf w3) fun w4 hx4=>aAZ ?_
  subst hRR
  exact⟨((n:Int),q,0,()),rfl,q,rfl,hq.ex hx4,hx3.trans hx4⟩
end Go.Proofs.YtbiilejgfihohaaGreat
namespace Go.Proofs.YtbiilejgfihohaaGreat
open Go Go.Cu Go.RowKit
structure ShIn(w:World)(F:Nat→Prop)(s:Sl)(hs:List Sl)(M:Mtx):Prop where
 hdr:Own slV 24 0 w s hs
 len:hs.length=M.length
 row:∀(i:Nat) (h:Sl) (r:List F8),hs[i]? =some h→M[i]? =some r→Own f8v 5 0 w h r
 dis:∀(i j:Nat) (h h':Sl),i≠j→hs[i]? =some h→hs[j]? =some h'→∀b,SlIn h b→¬SlIn h' b
 apt:∀(i:Nat) (h:Sl),hs[i]? =some h→∀b,SlIn h b→¬SlIn s b∧F b
 own:∀b,SlIn s b→F b
def ShT(s:Sl)(hs:List Sl)(M:Mtx):Th:=⟨fun w F=>ShIn w F s hs M,fun h m hx=>
 ⟨h.hdr.mo m (fun b hb=>hx b (h.own b hb)),h.len,fun i g r h1 h2=>(h.row i g r h1 h2).mo m (fun b hb=>hx b (h.apt i g h1 b hb).2),h.dis,h.apt,h.own⟩⟩
theorem sh_get{W0 w:World}{T:Ths}{k:Ky}{s:Sl}{hs:List Sl}{M:Mtx}(hS:Sep W0 w T)(hk:T k=ShT s hs M):
  Own slV 24 0 w s hs∧hs.length=M.length∧∀(i:Nat) (h:Sl) (r:List F8),hs[i]? =some h→M[i]? =some r→Own f8v 5 0 w h r:=by
 obtain⟨F,ht,_⟩:=hS.get k hk
 exact⟨ht.hdr,ht.len,ht.row⟩
theorem sh_row{W0 w w':World}{T:Ths}{k:Ky}{s h:Sl}{hs:List Sl}{M:Mtx}{i:Nat}{r:List F8}(hS:Sep W0 w T)(hk:T k=ShT s hs M)(hh:hs[i]? =some h)(ho:Own f8v 5 0 w' h r)(m:Mo (SlIn h) w w'):
  Sep W0 w' (T.up k (ShT s hs (M.set i r))):=by
 obtain⟨F,ht,_,hc⟩:=hS.get k hk
 refine hc w' _ F (m.weak (fun b _ hb=>(ht.apt i h hh b hb).2)) ⟨?_,by rw[List.length_set];exact ht.len,fun j g q h1 h2=>?_,ht.dis,ht.apt,ht.own⟩ (fun b hb=>.inl hb)
 ·exact ht.hdr.mo m (fun b hb hb'=>(ht.apt i h hh b hb').1 hb)
 ·by_cases e:i=j
  ·subst e
   rw[hh]at h1
   cases h1
   rw[List.getElem?_set,if_pos rfl]at h2
   split at h2
   ·cases h2;exact ho
   ·cases h2
  ·rw[List.getElem?_set,if_neg e]at h2
   exact(ht.row j g q h1 h2).mo m (fun b hb hb'=>ht.dis j i g h (fun e'=>e e'.symm) h1 hh b hb hb')
theorem sh_new{W0 w w1 w':World}{T:Ths}{k:Ky}{s h:Sl}{hs:List Sl}{M:Mtx}{i:Nat}{r:List F8}(hS:Sep W0 w T)(hk:T k=ShT s hs M)(hx:Ex w w1)(ho:Own f8v 5 w.heap.size w1 h r)(hi:i<hs.length)
  (hh:Own slV 24 0 w' s (hs.set i h)) (m:Mo (SlIn s) w1 w'):Sep W0 w' (T.up k (ShT s (hs.set i h) (M.set i r))):=by
 obtain⟨F,ht,hF,hc⟩:=hS.get k hk
 have hsl:∀b,SlIn s b→b<w.heap.size:=fun b hb=>(hF b (ht.own b hb)).2
 have hnew:∀b,SlIn h b→w.heap.size≤b∧b<w1.heap.size:=fun b hb=>ho.base b hb
 have hm:Mo F w w':=Mo.trans (hx.weak (fun b _ hb=>hb.elim)) m (fun _=>id) (fun b hb hb'=>ht.own b hb')
 refine hc w' _ (fun b=>F b∨SlIn h b) hm ⟨hh,by rw[List.length_set,List.length_set];exact ht.len,fun j g q h1 h2=>?_,fun j l g g' hne h1 h2 b hb hb'=>?_,fun j g h1 b hb=>?_,fun b hb=>.inl (ht.own b hb)⟩ (fun b hb=>?_)
 ·rw[List.getElem?_set]at h1 h2
  by_cases e:i=j
  ·subst e
   rw[if_pos rfl,if_pos hi]at h1
   rw[if_pos rfl,if_pos (by have:=ht.len;omega)]at h2
   obtain rfl:=Option.some.inj h1
   obtain rfl:=Option.some.inj h2
   exact(ho.weak (Nat.zero_le _)).mo m (fun b hb hb'=>absurd (hsl b hb') (by have:=(hnew b hb).1;omega))
  ·rw[if_neg e]at h1 h2
   refine((ht.row j g q h1 h2).mo hx (fun _ _=>id)).mo m (fun b hb hb'=>(ht.apt j g h1 b hb).1 hb')
 ·rw[List.getElem?_set]at h1 h2
  by_cases e:i=j
  ·subst e
   rw[if_pos rfl,if_pos hi]at h1
   obtain rfl:=Option.some.inj h1
   rw[if_neg (fun e=>hne e)]at h2
   have:=(hF b (ht.apt l g' h2 b hb').2).2
   have:=(hnew b hb).1
   omega
  ·rw[if_neg e]at h1
   by_cases e2:i=l
   ·subst e2
    rw[if_pos rfl,if_pos hi]at h2
    obtain rfl:=Option.some.inj h2
    have:=(hF b (ht.apt j g h1 b hb).2).2
    have:=(hnew b hb').1
    omega
   ·rw[if_neg e2]at h2
    exact ht.dis j l g g' hne h1 h2 b hb hb'
 ·rw[List.getElem?_set]at h1
  by_cases e:i=j
  ·subst e
   rw[if_pos rfl,if_pos hi]at h1
   obtain rfl:=Option.some.inj h1
   exact⟨fun hb'=>absurd (hsl b hb') (by have:=(hnew b hb).1;omega),.inr hb⟩
  ·rw[if_neg e]at h1
   have:=ht.apt j g h1 b hb
   exact⟨this.1,.inl this.2⟩
 ·rcases hb with hb | hb
  ·exact .inl hb
  ·have:=hnew b hb
   exact .inr ⟨this.1,Nat.lt_of_lt_of_le this.2 m.size⟩
theorem sh_init{W0 w w':World}{T:Ths}{k:Ky}{s:Sl}{n:Nat}(hS:Sep W0 w T)(hx:Ex w w')(ho:Own slV 24 w.heap.size w' s (List.replicate n ⟨none,0,0⟩)):Sep W0 w' (T.up k (ShT s (List.replicate n ⟨none,0,0⟩) (List.replicate n []))):=by
 have hn:∀(i:Nat) (h:Sl),(List.replicate n (⟨none,0,0⟩:Sl))[i]? =some h→h=⟨none,0,0⟩:=fun i h e=>by
  rw[List.getElem?_replicate]at e
  split at e
  ·cases e;rfl
  ·cases e
 refine hS.new k (G:=fun b=>SlIn s b) hx ⟨ho.weak (Nat.zero_le _),by simp,fun i h r e1 e2=>?_,fun i j h h' _ e1 _ b hb=>?_,fun i h e1 b hb=>?_,fun b hb=>hb⟩ (fun b hb=>ho.base b hb)
 ·rw[hn i h e1]
  rw[List.getElem?_replicate]at e2
  split at e2
  ·cases e2;exact Own.nil _ _ _ _
  ·cases e2
 ·rw[hn i h e1]at hb
  obtain⟨a,ha,_⟩:=hb
  cases ha
 ·rw[hn i h e1]at hb
  obtain⟨a,ha,_⟩:=hb
  cases ha
end Go.Proofs.YtbiilejgfihohaaGreat
namespace Go.Proofs.YtbiilejgfihohaaGreat
open Go Go.Cu
theorem mix_eqe:Tryz.prog.follows .mixedOrders=true:=by kernel_rfl
noncomputable def trie_node_walk.body:Code:=(Tryz.f95.body).getD .skip
def trie_node_walk.j2(R:EPq)(k2:((Option Addr)×Sl×Sl×Sl×Int×Int×Unit)→WPq)(v0:(Option Addr))(v1:Sl)(v2:Sl)(t46:Sl)(t47:Int)(t48:Int)(w:World):Prop:=
 k2 (v0,v1,v2,t46,t47,(IntKind.wrap .i64 (t48+1)),()) w
def trie_node_walk.b2(R:EPq)(k2:((Option Addr)×Sl×Sl×Sl×Int×Int×Unit)→WPq)(v0:(Option Addr))(v1:Sl)(v2:Sl)(t46:Sl)(t47:Int)(t48:Int)(w:World):Prop:=
 Cd (decide (t48<t47)) (Pu Tryz.prog (Instr.indexAt 25 (.slice t46.base t46.len t46.cap) (.int .i64 t48)) (.one (.at .addr)) (fun(x25:Addr) w26=>
 Rd Tryz.prog (Instr.loadAt 3 (.pointer (some x25))) (.one (.at (.int .i64))) (fun(x27:Int) w28=>
 Held w28.drew (fun S29=>Pu Tryz.prog (amZ v0) (.one (.at .addr)) (fun(x30:Addr) w31=>
 RdS Tryz.prog S29 (Instr.loadAt 121 (.pointer (some x30))) (.one (.at .map)) (fun(x32:(Option Nat)) w33=>
 RdS Tryz.prog S29 (Instr.lookup 121 (.map x32) (.int .i64 x27) false) (.one (.at .ptr)) (fun(x34:(Option Addr)) w35=>
 (Cl Tryz.prog 117 #[(.slice v1.base v1.len v1.cap)] (.one (.at .sl)) (fun(x36:Sl) w37=>
 S29 w37∧(Wr Tryz.prog (Instr.buildSlice 25 1 #[(0,(.int .i64 x27))]) (.one (.at .sl)) (fun(x38:Sl) w39=>
 S29 w39∧(Wr Tryz.prog (Builtin.append_ #[25,25] 25 #[(.slice x36.base x36.len x36.cap),(.slice x38.base x38.len x38.cap)]) (.one (.at .sl)) (fun(x40:Sl) w41=>
 S29 w41∧(Cl Tryz.prog 95 #[(.pointer x34),(.slice x40.base x40.len x40.cap),(.slice v2.base v2.len v2.cap)] (.one (.at .sl)) (fun(x42:Sl) w43=>
 S29 w43∧(trie_node_walk.j2 R k2 v0 v1 x42 t46 t47 t48 w43)) w41)) w39)) w37)) w35)∧(Wr Tryz.prog (Instr.buildSlice 25 1 #[(0,(.int .i64 x27))]) (.one (.at .sl)) (fun(x44:Sl) w45=>
 S29 w45∧(Cl Tryz.prog 117 #[(.slice v1.base v1.len v1.cap)] (.one (.at .sl)) (fun(x46:Sl) w47=>
 S29 w47∧(Wr Tryz.prog (Builtin.append_ #[25,25] 25 #[(.slice x46.base x46.len x46.cap),(.slice x44.base x44.len x44.cap)]) (.one (.at .sl)) (fun(x48:Sl) w49=>
 S29 w49∧(Cl Tryz.prog 95 #[(.pointer x34),(.slice x48.base x48.len x48.cap),(.slice v2.base v2.len v2.cap)] (.one (.at .sl)) (fun(x50:Sl) w51=>
 S29 w51∧(trie_node_walk.j2 R k2 v0 v1 x50 t46 t47 t48 w51)) w49)) w47)) w45)) w35)) w33) w31) w28.drew)) w26) w) (R (.returned (.slice v2.base v2.len v2.cap)) w)
def trie_node_walk.l2(R:EPq):((Option Addr)×Sl×Sl×Sl×Int×Int×Unit)→World→Prop:=arZ (fun k2 s w=>trie_node_walk.b2 R k2 s.1 s.2.1 s.2.2.1 s.2.2.2.1 s.2.2.2.2.1 s.2.2.2.2.2.1 w)
def trie_node_walk.b1(R:EPq)(k1:((Option Addr)×Sl×Sl×Sl×Addr×Unit)→WPq)(v0:(Option Addr))(v1:Sl)(v2:Sl)(v7:Sl)(t35:Addr)(w:World):Prop:=
 Wr Tryz.prog (Instr.next (.pointer (some t35)) false 0) (.nxt (.int .i64) (.ptr)) (fun x15 w16=>
 Cd x15.isSome (Rd Tryz.prog (Instr.entry (.pointer (some t35))) (.tup [.at (.int .i64),.at .ptr]) (fun x17 w18=>
 Wr Tryz.prog (Instr.buildSlice 25 1 #[(0,(.int .i64 x17.1))]) (.one (.at .sl)) (fun(x19:Sl) w20=>
 Wr Tryz.prog (Builtin.append_ #[25,25] 25 #[(.slice v7.base v7.len v7.cap),(.slice x19.base x19.len x19.cap)]) (.one (.at .sl)) (fun(x21:Sl) w22=>
 k1 (v0,v1,v2,x21,t35,()) w22) w20) w18) w16) (Cl Tryz.prog 118 #[(.slice v7.base v7.len v7.cap)] (.tup []) (fun x23 w24=>
 trie_node_walk.l2 R (v0,v1,v2,v7,((v7.len:Nat):Int),0,()) w24) w16)) w
def trie_node_walk.l1(R:EPq):((Option Addr)×Sl×Sl×Sl×Addr×Unit)→World→Prop:=arZ (fun k1 s w=>trie_node_walk.b1 R k1 s.1 s.2.1 s.2.2.1 s.2.2.2.1 s.2.2.2.2.1 w)
def trie_node_walk.j1(R:EPq)(v0:(Option Addr))(v1:Sl)(v2:Sl)(w:World):Prop:=
 Pu Tryz.prog (amZ v0) (.one (.at .addr)) (fun(x1:Addr) w2=>
 Rd Tryz.prog (Instr.loadAt 121 (.pointer (some x1))) (.one (.at .map)) (fun(x3:(Option Nat)) w4=>
 Rd Tryz.prog (Builtin.len_ #[121] 3 #[(.map x3)]) (.one (.at (.int .i64))) (fun(x5:Int) w6=>
 Wr Tryz.prog (Instr.makeSlice 25 (.int .i64 0) (.int .i64 x5)) (.one (.at .sl)) (fun(x7:Sl) w8=>
 Pu Tryz.prog (amZ v0) (.one (.at .addr)) (fun(x9:Addr) w10=>
 Rd Tryz.prog (Instr.loadAt 121 (.pointer (some x9))) (.one (.at .map)) (fun(x11:(Option Nat)) w12=>
 Wr Tryz.prog (Instr.range 121 (.map x11)) (.one (.at .addr)) (fun(x13:Addr) w14=>
 trie_node_walk.l1 R (v0,v1,v2,x7,x13,()) w14) w12) w10) w8) w6) w4) w2) w
def trie_node_walk.M(R:EPq)(v0:(Option Addr))(v1:Sl)(v2:Sl)(w:World):Prop:=
 Pu Tryz.prog (amZ v0) (.one (.at .addr)) (fun(x52:Addr) w53=>
 Rd Tryz.prog (Instr.loadAt 4 (.pointer (some (Addr.add x52 1)))) (.one (.at .bool)) (fun(x54:Bool) w55=>
 Cd x54 (Held w55.drew (fun S56=>Pu Tryz.prog (amZ v0) (.one (.at .addr)) (fun(x57:Addr) w58=>
 RdS Tryz.prog S56 (Instr.loadAt 3 (.pointer (some (Addr.add x57 3)))) (.one (.at (.int .i64))) (fun(x59:Int) w60=>
 Cl Tryz.prog 117 #[(.slice v1.base v1.len v1.cap)] (.one (.at .sl)) (fun(x61:Sl) w62=>
 S56 w62∧(Wr Tryz.prog (Instr.buildSlice 154 1 #[(0,(.agg #[(.slice x61.base x61.len x61.cap),(.int .i64 x59)]))]) (.one (.at .sl)) (fun(x63:Sl) w64=>
 S56 w64∧(Wr Tryz.prog (Builtin.append_ #[154,154] 154 #[(.slice v2.base v2.len v2.cap),(.slice x63.base x63.len x63.cap)]) (.one (.at .sl)) (fun(x65:Sl) w66=>
 S56 w66∧(trie_node_walk.j1 R v0 v1 x65 w66)) w64)) w62)) w60) w58) w55.drew)) (trie_node_walk.j1 R v0 v1 v2 w55)) w53) w
noncomputable def trie_node_walk.ann(R:EPq):Ann:=
 .seq (.reg qN1) (.join [(0,qcP),(1,qcS),(2,qcS)] (fun s w=>trie_node_walk.j1 R s.1 s.2.1 s.2.2.1 w) (.seq (.reg (.op 0 .now (.op 1 qpA (.op 2 .now (.op 3 (.rd (.one (.at .bool))) (.done)))))) (.cond (.regD (.op 0 .now (.op 1 .now (.op 3 .now (.op 4 qpA (.op 5 .now (.op 6 (.rd (.one qcI)) (.op 2 (.cl (.one qcS)) (.op 7 .now (.op 8 (.wr (.one qcS)) (.op 9 (.wr (.one qcS)) (.op 10 .now (.done))))))))))))) (.leaf))) (.seq (.reg (.op 0 .now (.op 1 qpA (.op 2 .now (.op 3 (.rd (.one (.at .map))) (.op 4 (.rd (.one qcI)) (.op 5 (.wr (.one qcS)) (.op 6 .now (.done))))))))) (.seq (.seq (.reg (.op 0 .now (.op 1 qpA (.op 2 .now (.op 3 (.rd (.one (.at .map))) (.op 4 (.wr (.one (.at .addr))) (.done))))))) (.block (.loop [(0,qcP),(1,qcS),(2,qcS),(7,qcS),(35,.at .addr)] (fun k1 s w=>trie_node_walk.b1 R k1 s.1 s.2.1 s.2.2.1 s.2.2.2.1 s.2.2.2.2.1 w) (fun k1=>.seq (.reg (.op 0 (.wr (.nxt (.int .i64) (.ptr))) (.op 1 .now (.done)))) (.seq (.cond (.leaf) (.leaf)) (.block (.seq (.reg (.op 0 (.rd (.tup [.at (.int .i64),.at .ptr])) (.op 1 .now (.op 2 .now (.done))))) (.reg (.op 0 .now (.op 1 .now (.op 2 (.wr (.one qcS)) (.op 3 (.wr (.one qcS)) (.op 4 .now (.done)))))))))))))) (.seq (.reg (.op 0 .now (.op 1 (.cl (.tup [])) (.done)))) (.seq (.seq (.reg qN3) (.block (.loop [(0,qcP),(1,qcS),(2,qcS),(46,qcS),(47,qcI),(48,qcI)] (fun k2 s w=>trie_node_walk.b2 R k2 s.1 s.2.1 s.2.2.1 s.2.2.2.1 s.2.2.2.2.1 s.2.2.2.2.2.1 w) (fun k2=>.seq (.reg qN1) (.seq (.cond (.leaf) (.leaf)) (.join [(0,qcP),(1,qcS),(2,qcS),(46,qcS),(47,qcI),(48,qcI)] (fun s w=>trie_node_walk.j2 R k2 s.1 s.2.1 s.2.2.1 s.2.2.2.1 s.2.2.2.2.1 s.2.2.2.2.2.1 w) (.block (.seq (.reg (.op 0 qpA (.op 1 (.rd (.one qcI)) (.op 2 .now (.done))))) (.regD (.op 0 .now (.op 1 qpA (.op 2 .now (.op 3 (.rd (.one (.at .map))) (.op 4 .now (.op 5 (.rd (.one qcP)) (.op 6 .now (.op 8 .now (.op 11 .now (.fork2 7 (.cl (.one qcS)) (.op 9 (.wr (.one qcS)) (.op 10 (.wr (.one qcS)) (.op 12 (.cl (.one qcS)) (.op 13 .now (.done))))) 9 (.wr (.one qcS)) (.op 7 (.cl (.one qcS)) (.op 10 (.wr (.one qcS)) (.op 12 (.cl (.one qcS)) (.op 13 .now (.done)))))))))))))))))) (.reg qN2))))))) (.seq (.reg qN2) (.leaf)))))))
theorem trie_node_walk.run(R:EPq)(v0:(Option Addr))(v1:Sl)(v2:Sl)(w:World)(h:trie_node_walk.M R v0 v1 v2 w):Calls Tryz.prog 95 #[(.pointer v0),(.slice v1.base v1.len v1.cap),(.slice v2.base v2.len v2.cap)] w R:=by
 refine aaZ mix_eqe Tryz.func95 (c:=trie_node_walk.body) (by kernel_rfl) [.at .sl] (trie_node_walk.ann R) 67 Tryz.ntmps95 [.tmp 6] (by kernel_rfl) (Nat.le_of_ble_eq_true (by kernel_rfl)) ?_ ?_
 ·exact⟨tv,⟨fun s w=>mq,⟨tv,⟨(show Region.noSelect _=true by kernel_rfl),tv⟩⟩,⟨tv,⟨⟨tv,(fun k1=>⟨fun s w=>mq,⟨tv,⟨⟨tv,tv⟩,⟨tv,tv⟩⟩⟩⟩)⟩,⟨tv,⟨⟨tv,(fun k2=>⟨fun s w=>mq,⟨tv,⟨⟨tv,tv⟩,⟨fun s w=>mq,⟨tv,(show Region.noSelect _=true by kernel_rfl)⟩,tv⟩⟩⟩⟩)⟩,⟨tv,tv⟩⟩⟩⟩⟩⟩⟩
 ·exact Eq.mp (show trie_node_walk.M R v0 v1 v2 w=_ by kernel_rfl) h
noncomputable def trie_Trie_Recent_1.body:Code:=(Tryz.f97.body).getD .skip
def trie_Trie_Recent_1.M(R:EPq)(v0:(Sl×Int×Unit))(v1:(Sl×Int×Unit))(w:World):Prop:=
 Wr Tryz.prog (Instr.box 158 (.agg #[(.slice v0.1.base v0.1.len v0.1.cap),(.int .i64 v0.2.1)])) (.one (.at .addr)) (fun(x1:Addr) w2=>
 Wr Tryz.prog (Instr.box 158 (.agg #[(.slice v1.1.base v1.1.len v1.1.cap),(.int .i64 v1.2.1)])) (.one (.at .addr)) (fun(x3:Addr) w4=>
 Rd Tryz.prog (Instr.loadAt 3 (.pointer (some (Addr.add x3 1)))) (.one (.at (.int .i64))) (fun(x5:Int) w6=>
 Rd Tryz.prog (Instr.loadAt 3 (.pointer (some (Addr.add x1 1)))) (.one (.at (.int .i64))) (fun(x7:Int) w8=>
 R (.returned (.int .i64 (IntKind.wrap .i64 (x5-x7)))) w8) w6) w4) w2) w
noncomputable def trie_Trie_Recent_1.ann(R:EPq):Ann:=
 .seq (.reg (.op 0 (.wr (.one (.at .addr))) (.op 1 (.wr (.one (.at .addr))) (.op 2 .now (.done))))) (.seq (.reg (.op 0 .now (.op 1 (.rd (.one qcI)) (.op 2 .now (.op 3 (.rd (.one qcI)) (.op 4 .now (.op 5 .now (.done)))))))) (.leaf))
theorem trie_Trie_Recent_1.run(R:EPq)(v0:(Sl×Int×Unit))(v1:(Sl×Int×Unit))(w:World)(h:trie_Trie_Recent_1.M R v0 v1 w):Calls Tryz.prog 97 #[(.agg #[(.slice v0.1.base v0.1.len v0.1.cap),(.int .i64 v0.2.1)]),(.agg #[(.slice v1.1.base v1.1.len v1.1.cap),(.int .i64 v1.2.1)])] w R:=by
 refine aaZ mix_eqe Tryz.func97 (c:=trie_Trie_Recent_1.body) (by kernel_rfl) [.at (.int .i64)] (trie_Trie_Recent_1.ann R) 10 Tryz.ntmps97 [.tmp 4] (by kernel_rfl) (Nat.le_of_ble_eq_true (by kernel_rfl)) ?_ ?_
 ·exact⟨tv,⟨tv,tv⟩⟩
 ·exact Eq.mp (show trie_Trie_Recent_1.M R v0 v1 w=_ by kernel_rfl) h
noncomputable def trie_keys.body:Code:=(Tryz.f98.body).getD .skip
def trie_keys.b1(R:EPq)(k1:(Sl×Sl×Int×Int×Unit)→WPq)(v3:Sl)(t9:Sl)(t10:Int)(t11:Int)(w:World):Prop:=
 Cd (decide (t11<t10)) (Pu Tryz.prog (Instr.indexAt 154 (.slice t9.base t9.len t9.cap) (.int .i64 t11)) (.one (.at .addr)) (fun(x3:Addr) w4=>
 Rd Tryz.prog (Instr.loadAt 158 (.pointer (some x3))) (.one (.agg [.sl,.int .i64])) (fun x5 w6=>
 Wr Tryz.prog (Instr.alloc 158 true (.tuple #[])) (.one (.at .addr)) (fun(x7:Addr) w8=>
 Wu Tryz.prog (Instr.storeAt 158 (.pointer (some x7)) (.agg #[(.slice x5.1.base x5.1.len x5.1.cap),(.int .i64 x5.2.1)])) (fun w9=>
 Rd Tryz.prog (Instr.loadAt 25 (.pointer (some x7))) (.one (.at .sl)) (fun(x10:Sl) w11=>
 Wr Tryz.prog (Builtin.append_ #[25,25] 25 #[(.slice none 0 0),(.slice x10.base x10.len x10.cap)]) (.one (.at .sl)) (fun(x12:Sl) w13=>
 Pu Tryz.prog (Instr.indexAt 53 (.slice v3.base v3.len v3.cap) (.int .i64 t11)) (.one (.at .addr)) (fun(x14:Addr) w15=>
 Wu Tryz.prog (Instr.storeAt 25 (.pointer (some x14)) (.slice x12.base x12.len x12.cap)) (fun w16=>
 k1 (v3,t9,t10,(IntKind.wrap .i64 (t11+1)),()) w16) w15) w13) w11) w9) w8) w6) w4) w) (R (.returned (.slice v3.base v3.len v3.cap)) w)
def trie_keys.l1(R:EPq):(Sl×Sl×Int×Int×Unit)→World→Prop:=arZ (fun k1 s w=>trie_keys.b1 R k1 s.1 s.2.1 s.2.2.1 s.2.2.2.1 w)
def trie_keys.M(R:EPq)(v0:Sl)(w:World):Prop:=
 Wr Tryz.prog (Instr.makeSlice 53 (.int .i64 ((v0.len:Nat):Int)) (.int .i64 ((v0.len:Nat):Int))) (.one (.at .sl)) (fun(x1:Sl) w2=>
 trie_keys.l1 R (x1,v0,((v0.len:Nat):Int),0,()) w2) w
noncomputable def trie_keys.ann(R:EPq):Ann:=
 .seq (.reg qN1) (.seq (.reg (.op 0 .now (.op 1 .now (.op 2 (.wr (.one qcS)) (.op 3 .now (.done)))))) (.seq (.seq (.reg qN3) (.block (.loop [(3,qcS),(9,qcS),(10,qcI),(11,qcI)] (fun k1 s w=>trie_keys.b1 R k1 s.1 s.2.1 s.2.2.1 s.2.2.2.1 w) (fun k1=>.seq (.reg qN1) (.seq (.cond (.leaf) (.leaf)) (.seq (.block (.seq (.reg (.op 0 .now (.op 1 qpA (.op 2 (.rd (.one (.agg [.sl,.int .i64]))) (.op 3 (.wr (.one (.at .addr))) (.op 4 .now (.op 5 .wu (.done)))))))) (.reg (.op 0 .now (.op 1 .now (.op 2 .now (.op 3 qrS (.op 4 (.wr (.one qcS)) (.op 5 qpA (.op 6 .wu (.done))))))))))) (.reg qN2))))))) (.seq (.reg qN2) (.leaf))))
theorem trie_keys.run(R:EPq)(v0:Sl)(w:World)(h:trie_keys.M R v0 w):Calls Tryz.prog 98 #[(.slice v0.base v0.len v0.cap)] w R:=by
 refine aaZ mix_eqe Tryz.func98 (c:=trie_keys.body) (by kernel_rfl) [.at .sl] (trie_keys.ann R) 24 Tryz.ntmps98 [.tmp 2] (by kernel_rfl) (Nat.le_of_ble_eq_true (by kernel_rfl)) ?_ ?_
 ·exact⟨tv,⟨tv,⟨⟨tv,(fun k1=>⟨fun s w=>mq,⟨tv,⟨⟨tv,tv⟩,⟨⟨tv,tv⟩,tv⟩⟩⟩⟩)⟩,⟨tv,tv⟩⟩⟩⟩
 ·exact Eq.mp (show trie_keys.M R v0 w=_ by kernel_rfl) h
noncomputable def trie_prune.body:Code:=(Tryz.f99.body).getD .skip
def trie_prune.j1(R:EPq)(v0:(Option Addr))(w:World):Prop:=
 Pu Tryz.prog (amZ v0) (.one (.at .addr)) (fun(x1:Addr) w2=>
 Rd Tryz.prog (Instr.loadAt 4 (.pointer (some (Addr.add x1 1)))) (.one (.at .bool)) (fun(x3:Bool) w4=>
 Cd x3 (R (.returned (.bool true)) w4) (Pu Tryz.prog (amZ v0) (.one (.at .addr)) (fun(x5:Addr) w6=>
 Rd Tryz.prog (Instr.loadAt 121 (.pointer (some x5))) (.one (.at .map)) (fun(x7:(Option Nat)) w8=>
 Rd Tryz.prog (Builtin.len_ #[121] 3 #[(.map x7)]) (.one (.at (.int .i64))) (fun(x9:Int) w10=>
 R (.returned (.bool (decide (x9>0)))) w10) w8) w6) w4)) w2) w
def trie_prune.j2(R:EPq)(v0:(Option Addr))(v1:Sl)(t25:Bool)(w:World):Prop:=
 Cd t25 (Held w.drew (fun S21=>Pu Tryz.prog (amZ v0) (.one (.at .addr)) (fun(x22:Addr) w23=>
 RdS Tryz.prog S21 (Instr.loadAt 121 (.pointer (some x22))) (.one (.at .map)) (fun(x24:(Option Nat)) w25=>
 Pu Tryz.prog (Instr.indexAt 25 (.slice v1.base v1.len v1.cap) (.int .i64 0)) (.one (.at .addr)) (fun(x26:Addr) w27=>
 RdS Tryz.prog S21 (Instr.loadAt 3 (.pointer (some x26))) (.one (.at (.int .i64))) (fun(x28:Int) w29=>
 Wr Tryz.prog (Builtin.delete_ #[121,3] 0 #[(.map x24),(.int .i64 x28)]) (.one (.at .any)) (fun x30 w31=>
 S21 w31∧(trie_prune.j1 R v0 w31)) w29) w27) w25) w23) w.drew)) (trie_prune.j1 R v0 w)
def trie_prune.M(R:EPq)(v0:(Option Addr))(v1:Sl)(w:World):Prop:=
 Cd (decide (((v1.len:Nat):Int)>0)) (Pu Tryz.prog (amZ v0) (.one (.at .addr)) (fun(x11:Addr) w12=>
 RdS Tryz.prog (Same w.drew) (Instr.loadAt 121 (.pointer (some x11))) (.one (.at .map)) (fun(x13:(Option Nat)) w14=>
 Pu Tryz.prog (Instr.indexAt 25 (.slice v1.base v1.len v1.cap) (.int .i64 0)) (.one (.at .addr)) (fun(x15:Addr) w16=>
 RdS Tryz.prog (Same w.drew) (Instr.loadAt 3 (.pointer (some x15))) (.one (.at (.int .i64))) (fun(x17:Int) w18=>
 RdS Tryz.prog (Same w.drew) (Instr.lookup 121 (.map x13) (.int .i64 x17) false) (.one (.at .ptr)) (fun(x19:(Option Addr)) w20=>
 Pu Tryz.prog (do eqGuard .neq 118 (.tmp 17) (.const (.pointer none)) (.pointer x19) (.pointer none);binOp .neq 118 (.pointer x19) (.pointer none)) (.one (.at .bool)) (fun(x32:Bool) w33=>
 Cd x32 (Pu Tryz.prog (Instr.sliceAt 25 (.slice v1.base v1.len v1.cap) (some (.int .i64 1)) none none) (.one (.at .sl)) (fun(x34:Sl) w35=>
 Cl Tryz.prog 99 #[(.pointer x19),(.slice x34.base x34.len x34.cap)] (.one (.at .bool)) (fun(x36:Bool) w37=>
 trie_prune.j2 R v0 v1 (!x36) w37) w35) w33) (trie_prune.j2 R v0 v1 false w33)) w20) w18) w16) w14) w12) w.drew) (trie_prune.j1 R v0 w)
noncomputable def trie_prune.ann(R:EPq):Ann:=
 .seq (.reg qN1) (.join [(0,qcP)] (fun s w=>trie_prune.j1 R s.1 w) (.seq (.reg qN3) (.cond (.seq (.regQ (.op 0 .now (.op 1 qpA (.op 2 .now (.op 3 (.rd (.one (.at .map))) (.op 4 .now (.op 5 qpA (.op 6 (.rd (.one qcI)) (.op 7 (.rd (.one qcP)) (.op 8 .now (.done))))))))))) (.join [(0,qcP),(1,qcS),(25,.at .bool)] (fun s w=>trie_prune.j2 R s.1 s.2.1 s.2.2.1 w) (.reg (.op 0 .now (.op 1 (.pu (.one (.at .bool))) (.op 2 .now (.split 2 (.op 3 .now (.op 4 .now (.op 5 (.pu (.one qcS)) (.op 6 (.cl (.one (.at .bool))) (.op 7 .now (.op 8 .now (.done))))))) (.skip 3 (.skip 4 (.skip 5 (.skip 6 (.skip 7 (.op 8 .now (.done)))))))))))) (.cond (.regD (.op 0 .now (.op 1 qpA (.op 2 .now (.op 3 (.rd (.one (.at .map))) (.op 4 .now (.op 5 qpA (.op 6 (.rd (.one qcI)) (.op 7 (.wr (.one (.at .any))) (.done)))))))))) (.leaf)))) (.leaf))) (.seq (.reg (.op 0 .now (.op 1 qpA (.op 2 .now (.op 3 (.rd (.one (.at .bool))) (.op 4 .now (.split 4 (.skip 5 (.skip 6 (.skip 7 (.skip 8 (.skip 9 (.skip 10 (.op 11 .now (.op 12 .now (.done))))))))) (.op 5 .now (.op 6 qpA (.op 7 .now (.op 8 (.rd (.one (.at .map))) (.op 9 (.rd (.one qcI)) (.op 10 .now (.op 11 .now (.op 12 .now (.done)))))))))))))))) (.leaf)))
theorem trie_prune.run(R:EPq)(v0:(Option Addr))(v1:Sl)(w:World)(h:trie_prune.M R v0 v1 w):Calls Tryz.prog 99 #[(.pointer v0),(.slice v1.base v1.len v1.cap)] w R:=by
 refine aaZ mix_eqe Tryz.func99 (c:=trie_prune.body) (by kernel_rfl) [.at .bool] (trie_prune.ann R) 45 Tryz.ntmps99 [.tmp 4] (by kernel_rfl) (Nat.le_of_ble_eq_true (by kernel_rfl)) ?_ ?_
 ·exact⟨tv,⟨fun s w=>mq,⟨tv,⟨⟨(show Region.noSelect _=true by kernel_rfl),⟨fun s w=>mq,tv,⟨(show Region.noSelect _=true by kernel_rfl),tv⟩⟩⟩,tv⟩⟩,⟨tv,tv⟩⟩⟩
 ·exact Eq.mp (show trie_prune.M R v0 v1 w=_ by kernel_rfl) h
noncomputable def slices_Clone_intint.body:Code:=(Tryz.f117.body).getD .skip
def slices_Clone_intint.M(R:EPq)(v0:Sl)(w:World):Prop:=
 Pu Tryz.prog (do eqGuard .eql 25 (.tmp 3) (.const (.slice none 0 0)) (.slice v0.base v0.len v0.cap) (.slice none 0 0);binOp .eql 25 (.slice v0.base v0.len v0.cap) (.slice none 0 0)) (.one (.at .bool)) (fun(x1:Bool) w2=>
 Cd x1 (R (.returned (.slice none 0 0)) w2) (Wr Tryz.prog (Instr.buildSlice 25 0 #[]) (.one (.at .sl)) (fun(x3:Sl) w4=>
 Wr Tryz.prog (Builtin.append_ #[25,25] 25 #[(.slice x3.base x3.len x3.cap),(.slice v0.base v0.len v0.cap)]) (.one (.at .sl)) (fun(x5:Sl) w6=>
 R (.returned (.slice x5.base x5.len x5.cap)) w6) w4) w2)) w
noncomputable def slices_Clone_intint.ann(R:EPq):Ann:=
 .seq (.reg qN1) (.seq (.seq (.reg (.op 0 .now (.op 1 (.pu (.one (.at .bool))) (.done)))) (.cond (.seq (.reg qN1) (.leaf)) (.leaf))) (.seq (.reg (.op 0 (.wr (.one qcS)) (.op 1 .now (.op 2 (.wr (.one qcS)) (.op 3 .now (.done)))))) (.leaf)))
theorem slices_Clone_intint.run(R:EPq)(v0:Sl)(w:World)(h:slices_Clone_intint.M R v0 w):Calls Tryz.prog 117 #[(.slice v0.base v0.len v0.cap)] w R:=by
 refine aaZ mix_eqe Tryz.func117 (c:=slices_Clone_intint.body) (by kernel_rfl) [.at .sl] (slices_Clone_intint.ann R) 8 Tryz.ntmps117 [.tmp 2] (by kernel_rfl) (Nat.le_of_ble_eq_true (by kernel_rfl)) ?_ ?_
 ·exact⟨tv,⟨⟨tv,⟨⟨tv,tv⟩,tv⟩⟩,⟨tv,tv⟩⟩⟩
 ·exact Eq.mp (show slices_Clone_intint.M R v0 w=_ by kernel_rfl) h
end Go.Proofs.YtbiilejgfihohaaGreat
