/- The lifted sentences of the functions of this seat, by program, and that the walks follow from them. -/
import Derived.Test.YtdnlnloogfnlgaaProg
import Derived.Test.YtdnlnloogfnlgaaLift3
import Derived.Test.YtdnlnloogfnlgaaOps
set_option linter.all false
namespace Go.Proofs.Ytdnlnloogfnlgaa
open Go Go.Cu
set_option linter.unusedVariables false
set_option maxRecDepth 100000
set_option maxHeartbeats 4000000

theorem mix_eq : Try.prog.follows .mixedOrders = true := by kernel_rfl
noncomputable def trie_New.body : Code := (Try.f11.body).getD .skip
def trie_New.j1 (R : Ending → World → Prop)  (limit_0 : Int) (t9 : Bool) (w : World) : Prop :=
  Cd t9 (R (.returned (.tuple #[(.pointer none), (.int .i64 7)])) w) (Cl Try.prog 40 #[] (.one (.at .ptr)) (fun (x1 : (Option Addr)) w2 =>
  Wr Try.prog (Instr.box 77 (.agg #[(.pointer x1), (.int .i64 limit_0), (.int .i64 0), (.int .i64 0)])) (.one (.at .addr)) (fun (x3 : Addr) w4 =>
  R (.returned (.tuple #[(.pointer (some x3)), (.int .i64 0)])) w4) w2) w)
def trie_New.M (R : Ending → World → Prop) (limit_0 : Int) (w : World) : Prop :=
  Cd (decide (limit_0 < 1)) (trie_New.j1 R limit_0 true w) (trie_New.j1 R limit_0 (decide (limit_0 > 1024)) w)
noncomputable def trie_New.ann (R : Ending → World → Prop) : Ann :=
  .seq (.reg (.op 0 .now (.op 1 .now (.done)))) (.seq (.join [(0, .at (.int .i64)), (9, .at .bool)] (fun s w => trie_New.j1 R s.1 s.2.1 w) (.reg (.op 0 .now (.op 1 .now (.op 2 .now (.split 2 (.skip 3 (.skip 4 (.op 5 .now (.done)))) (.op 3 .now (.op 4 .now (.op 5 .now (.done))))))))) (.cond (.seq (.reg (.op 0 .now (.op 1 .now (.done)))) (.leaf)) (.leaf))) (.seq (.reg (.op 0 (.cl (.one (.at .ptr))) (.op 1 .now (.op 2 .now (.op 3 (.wr (.one (.at .addr))) (.op 4 .now (.op 5 .now (.done)))))))) (.leaf)))
theorem trie_New.run (R : Ending → World → Prop) (limit_0 : Int) (w : World) (h : trie_New.M R limit_0 w) : Calls Try.prog 11 #[(.int .i64 limit_0)] w R := by
  refine calls_of_lift mix_eq Try.func11 (c := trie_New.body) (by kernel_rfl) [.at .ptr, .at (.int .i64)] (trie_New.ann R) 14 Try.ntmps11 [.tmp 2, .tmp 3] (by kernel_rfl) (Nat.le_of_ble_eq_true (by kernel_rfl)) ?_ ?_
  · exact ⟨trivial, ⟨⟨fun s w h => Eq.mp (by kernel_rfl) h, trivial, ⟨⟨trivial, trivial⟩, trivial⟩⟩, ⟨trivial, trivial⟩⟩⟩
  · exact Eq.mp (show trie_New.M R limit_0 w = _ by kernel_rfl) h

noncomputable def culletlaw12_fixed.body : Code := (Try.f12.body).getD .skip
def culletlaw12_fixed.j1 (R : Ending → World → Prop)  (t_1 : (Option Addr)) (t15 : Bool) (w : World) : Prop :=
  Cd t15 (R (.returned (.bool false)) w) (Wr Try.prog (Instr.buildSlice 29 2 #[(0, (.int .i64 1)), (1, (.int .i64 4))]) (.one (.at .sl)) (fun (x3 : Sl) w4 =>
  Wr Try.prog (Instr.buildSlice 52 2 #[(0, (.int .u8 7)), (1, (.int .u8 8))]) (.one (.at .sl)) (fun (x5 : Sl) w6 =>
  Wr Try.prog (Instr.buildSlice 52 1 #[(0, (.int .u8 9))]) (.one (.at .sl)) (fun (x7 : Sl) w8 =>
  Wr Try.prog (Instr.buildSlice 30 2 #[(0, (.slice x5.base x5.len x5.cap)), (1, (.slice x7.base x7.len x7.cap))]) (.one (.at .sl)) (fun (x9 : Sl) w10 =>
  Cl Try.prog 15 #[(.pointer t_1), (.slice x3.base x3.len x3.cap), (.slice x9.base x9.len x9.cap)] (.one (.at (.int .i64))) (fun (x11 : Int) w12 =>
  Wr Try.prog (Instr.buildSlice 29 2 #[(0, (.int .i64 1)), (1, (.int .i64 4))]) (.one (.at .sl)) (fun (x13 : Sl) w14 =>
  Cl Try.prog 19 #[(.pointer t_1), (.slice x13.base x13.len x13.cap)] (.tup [.at .sl, .at .bool]) (fun x15 w16 =>
  Cd (x11 == 0) (Cd x15.2.1 (Wr Try.prog (Instr.buildSlice 52 2 #[(0, (.int .u8 7)), (1, (.int .u8 8))]) (.one (.at .sl)) (fun (x17 : Sl) w18 =>
  Wr Try.prog (Instr.buildSlice 52 1 #[(0, (.int .u8 9))]) (.one (.at .sl)) (fun (x19 : Sl) w20 =>
  Wr Try.prog (Instr.buildSlice 30 2 #[(0, (.slice x17.base x17.len x17.cap)), (1, (.slice x19.base x19.len x19.cap))]) (.one (.at .sl)) (fun (x21 : Sl) w22 =>
  Cl Try.prog 21 #[(.slice x15.1.base x15.1.len x15.1.cap), (.slice x21.base x21.len x21.cap)] (.one (.at .bool)) (fun (x23 : Bool) w24 =>
  Cd x23 (Cl Try.prog 35 #[(.pointer t_1)] (.one (.at (.int .i64))) (fun (x25 : Int) w26 =>
  R (.returned (.bool (x25 == 2))) w26) w24) (R (.returned (.bool false)) w24)) w22) w20) w18) w16) (R (.returned (.bool false)) w16)) (R (.returned (.bool false)) w16)) w14) w12) w10) w8) w6) w4) w)
def culletlaw12_fixed.M (R : Ending → World → Prop)  (w : World) : Prop :=
  Cl Try.prog 11 #[(.int .i64 2)] (.tup [.at .ptr, .at (.int .i64)]) (fun x1 w2 =>
  Pu Try.prog (do eqGuard .eql 23 (.tmp 10) (.const (.pointer none)) (.pointer x1.1) (.pointer none); binOp .eql 23 (.pointer x1.1) (.pointer none)) (.one (.at .bool)) (fun (x27 : Bool) w28 =>
  Cd x27 (culletlaw12_fixed.j1 R x1.1 true w28) (culletlaw12_fixed.j1 R x1.1 (x1.2.1 != 0) w28)) w2) w
noncomputable def culletlaw12_fixed.ann (R : Ending → World → Prop) : Ann :=
  .seq (.reg (.op 0 .now (.done))) (.seq (.reg (.op 0 (.cl (.tup [.at .ptr, .at (.int .i64)])) (.op 1 .now (.op 2 .now (.op 3 .now (.op 4 .now (.op 5 .now (.done)))))))) (.seq (.join [(1, .at .ptr), (15, .at .bool)] (fun s w => culletlaw12_fixed.j1 R s.1 s.2.1 w) (.reg (.op 0 .now (.op 1 (.pu (.one (.at .bool))) (.op 2 .now (.split 2 (.skip 3 (.skip 4 (.op 5 .now (.done)))) (.op 3 .now (.op 4 .now (.op 5 .now (.done))))))))) (.cond (.seq (.reg (.op 0 .now (.done))) (.leaf)) (.leaf))) (.seq (.reg (.op 0 .now (.op 1 (.wr (.one (.at .sl))) (.op 2 (.wr (.one (.at .sl))) (.op 3 (.wr (.one (.at .sl))) (.op 4 (.wr (.one (.at .sl))) (.op 5 (.cl (.one (.at (.int .i64)))) (.op 6 .now (.done))))))))) (.seq (.reg (.op 0 .now (.op 1 (.wr (.one (.at .sl))) (.op 2 (.cl (.tup [.at .sl, .at .bool])) (.op 3 .now (.op 4 .now (.op 5 .now (.op 6 .now (.op 7 .now (.done)))))))))) (.seq (.reg (.op 0 .now (.op 1 .now (.op 2 .now (.split 2 (.op 3 .now (.op 4 .now (.op 5 .now (.split 5 (.op 6 .now (.op 7 (.wr (.one (.at .sl))) (.op 8 (.wr (.one (.at .sl))) (.op 9 (.wr (.one (.at .sl))) (.op 10 (.cl (.one (.at .bool))) (.op 11 .now (.op 12 .now (.split 12 (.op 13 .now (.op 14 (.cl (.one (.at (.int .i64)))) (.op 15 .now (.op 16 .now (.op 17 .now (.done)))))) (.skip 13 (.skip 14 (.skip 15 (.op 16 .now (.op 17 .now (.done)))))))))))))) (.skip 6 (.skip 7 (.skip 8 (.skip 9 (.skip 10 (.op 11 .now (.op 12 .now (.skip 13 (.skip 14 (.skip 15 (.op 16 .now (.op 17 .now (.done))))))))))))))))) (.skip 3 (.op 4 .now (.op 5 .now (.skip 6 (.skip 7 (.skip 8 (.skip 9 (.skip 10 (.op 11 .now (.op 12 .now (.skip 13 (.skip 14 (.skip 15 (.op 16 .now (.op 17 .now (.done))))))))))))))))))))) (.leaf))))))
theorem culletlaw12_fixed.run (R : Ending → World → Prop)  (w : World) (h : culletlaw12_fixed.M R  w) : Calls Try.prog 12 #[] w R := by
  refine calls_of_lift mix_eq Try.func12 (c := culletlaw12_fixed.body) (by kernel_rfl) [.at .bool] (culletlaw12_fixed.ann R) 45 Try.ntmps12 [.tmp 0] (by kernel_rfl) (Nat.le_of_ble_eq_true (by kernel_rfl)) ?_ ?_
  · exact ⟨trivial, ⟨trivial, ⟨⟨fun s w h => Eq.mp (by kernel_rfl) h, trivial, ⟨⟨trivial, trivial⟩, trivial⟩⟩, ⟨trivial, ⟨trivial, ⟨trivial, trivial⟩⟩⟩⟩⟩⟩
  · exact Eq.mp (show culletlaw12_fixed.M R  w = _ by kernel_rfl) h

noncomputable def culletref12_Good.body : Code := (Try.f13.body).getD .skip
def culletref12_Good.j1 (R : Ending → World → Prop)  (k1 : (Sl × Sl × Int × Int × Unit) → World → Prop) (key_0 : Sl) (t5 : Sl) (t6 : Int) (t7 : Int) (t30 : Bool) (w : World) : Prop :=
  Cd t30 (R (.returned (.bool false)) w) (k1 (key_0, t5, t6, (IntKind.wrap .i64 (t7 + 1)), ()) w)
def culletref12_Good.b1 (R : Ending → World → Prop) (k1 : (Sl × Sl × Int × Int × Unit) → World → Prop) (key_0 : Sl) (t5 : Sl) (t6 : Int) (t7 : Int) (w : World) : Prop :=
  Cd (decide (t7 < t6)) (Pu Try.prog (Instr.indexAt 29 (.slice t5.base t5.len t5.cap) (.int .i64 t7)) (.one (.at .addr)) (fun (x1 : Addr) w2 =>
  Rd Try.prog (Instr.loadAt 3 (.pointer (some x1))) (.one (.at (.int .i64))) (fun (x3 : Int) w4 =>
  Cd (decide (x3 < 0)) (culletref12_Good.j1 R k1 key_0 t5 t6 t7 true w4) (Cd (decide (x3 > 255)) (culletref12_Good.j1 R k1 key_0 t5 t6 t7 true w4) (Cd (decide (t7 > 0)) (Pu Try.prog (Instr.indexAt 29 (.slice key_0.base key_0.len key_0.cap) (.int .i64 (IntKind.wrap .i64 (t7 - 1)))) (.one (.at .addr)) (fun (x5 : Addr) w6 =>
  Rd Try.prog (Instr.loadAt 3 (.pointer (some x5))) (.one (.at (.int .i64))) (fun (x7 : Int) w8 =>
  culletref12_Good.j1 R k1 key_0 t5 t6 t7 (decide (x7 ≥ x3)) w8) w6) w4) (culletref12_Good.j1 R k1 key_0 t5 t6 t7 false w4)))) w2) w) (R (.returned (.bool true)) w)
def culletref12_Good.l1 (R : Ending → World → Prop) : (Sl × Sl × Int × Int × Unit) → World → Prop := loopW (fun k1 s w => culletref12_Good.b1 R k1 s.1 s.2.1 s.2.2.1 s.2.2.2.1 w)
def culletref12_Good.M (R : Ending → World → Prop) (key_0 : Sl) (w : World) : Prop :=
  culletref12_Good.l1 R (key_0, key_0, ((key_0.len : Nat) : Int), 0, ()) w
noncomputable def culletref12_Good.ann (R : Ending → World → Prop) : Ann :=
  .seq (.reg (.op 0 .now (.done))) (.seq (.seq (.reg (.op 0 .now (.op 1 .now (.op 2 .now (.done))))) (.block (.loop [(0, .at .sl), (5, .at .sl), (6, .at (.int .i64)), (7, .at (.int .i64))] (fun k1 s w => culletref12_Good.b1 R k1 s.1 s.2.1 s.2.2.1 s.2.2.2.1 w) (fun k1 => .seq (.reg (.op 0 .now (.done))) (.seq (.cond (.leaf) (.leaf)) (.seq (.block (.seq (.reg (.op 0 .now (.op 1 (.pu (.one (.at .addr))) (.op 2 (.rd (.one (.at (.int .i64)))) (.op 3 .now (.op 4 .now (.done))))))) (.join [(0, .at .sl), (5, .at .sl), (6, .at (.int .i64)), (7, .at (.int .i64)), (30, .at .bool)] (fun s w => culletref12_Good.j1 R k1 s.1 s.2.1 s.2.2.1 s.2.2.2.1 s.2.2.2.2.1 w) (.reg (.op 0 .now (.op 1 .now (.op 2 .now (.split 2 (.skip 3 (.skip 4 (.op 5 .now (.op 6 .now (.skip 7 (.skip 8 (.skip 9 (.skip 10 (.skip 11 (.skip 12 (.skip 13 (.skip 14 (.skip 15 (.skip 16 (.skip 17 (.op 18 .now (.done))))))))))))))))) (.op 3 .now (.op 4 .now (.op 5 .now (.op 6 .now (.split 6 (.skip 7 (.skip 8 (.skip 9 (.skip 10 (.skip 11 (.skip 12 (.skip 13 (.skip 14 (.skip 15 (.skip 16 (.skip 17 (.op 18 .now (.done))))))))))))) (.op 7 .now (.op 8 .now (.op 9 .now (.split 9 (.op 10 .now (.op 11 .now (.op 12 .now (.op 13 (.pu (.one (.at .addr))) (.op 14 (.rd (.one (.at (.int .i64)))) (.op 15 .now (.op 16 .now (.op 17 .now (.op 18 .now (.done)))))))))) (.skip 10 (.skip 11 (.skip 12 (.skip 13 (.skip 14 (.skip 15 (.skip 16 (.op 17 .now (.op 18 .now (.done)))))))))))))))))))))))) (.cond (.seq (.reg (.op 0 .now (.done))) (.leaf)) (.leaf))))) (.reg (.op 0 .now (.op 1 .now (.done)))))))))) (.seq (.reg (.op 0 .now (.done))) (.leaf)))
theorem culletref12_Good.run (R : Ending → World → Prop) (key_0 : Sl) (w : World) (h : culletref12_Good.M R key_0 w) : Calls Try.prog 13 #[(.slice key_0.base key_0.len key_0.cap)] w R := by
  refine calls_of_lift mix_eq Try.func13 (c := culletref12_Good.body) (by kernel_rfl) [.at .bool] (culletref12_Good.ann R) 32 Try.ntmps13 [.tmp 2] (by kernel_rfl) (Nat.le_of_ble_eq_true (by kernel_rfl)) ?_ ?_
  · exact ⟨trivial, ⟨⟨trivial, (fun k1 => ⟨fun s w h => Eq.mp (by kernel_rfl) h, ⟨trivial, ⟨⟨trivial, trivial⟩, ⟨⟨trivial, ⟨fun s w h => Eq.mp (by kernel_rfl) h, trivial, ⟨⟨trivial, trivial⟩, trivial⟩⟩⟩, trivial⟩⟩⟩⟩)⟩, ⟨trivial, trivial⟩⟩⟩
  · exact Eq.mp (show culletref12_Good.M R key_0 w = _ by kernel_rfl) h

noncomputable def culletlaw12_find.body : Code := (Try.f14.body).getD .skip
def culletlaw12_find.b1 (R : Ending → World → Prop) (k1 : (Sl × Sl × Int × Int × Unit) → World → Prop) (key_1 : Sl) (t7 : Sl) (t8 : Int) (t9 : Int) (w : World) : Prop :=
  Cd (decide (t9 < t8)) (Pu Try.prog (Instr.indexAt 28 (.slice t7.base t7.len t7.cap) (.int .i64 t9)) (.one (.at .addr)) (fun (x1 : Addr) w2 =>
  Rd Try.prog (Instr.loadAt 43 (.pointer (some x1))) (.one (.agg [.sl, .sl])) (fun x3 w4 =>
  Wr Try.prog (Instr.alloc 43 true (.tuple #[])) (.one (.at .addr)) (fun (x5 : Addr) w6 =>
  Wu Try.prog (Instr.storeAt 43 (.pointer (some x5)) (.agg #[(.slice x3.1.base x3.1.len x3.1.cap), (.slice x3.2.1.base x3.2.1.len x3.2.1.cap)])) (fun w7 =>
  Rd Try.prog (Instr.loadAt 29 (.pointer (some x5))) (.one (.at .sl)) (fun (x8 : Sl) w9 =>
  Cl Try.prog 24 #[(.slice x8.base x8.len x8.cap), (.slice key_1.base key_1.len key_1.cap)] (.one (.at .bool)) (fun (x10 : Bool) w11 =>
  Cd x10 (R (.returned (.int .i64 t9)) w11) (k1 (key_1, t7, t8, (IntKind.wrap .i64 (t9 + 1)), ()) w11)) w9) w7) w6) w4) w2) w) (R (.returned (.int .i64 (-1))) w)
def culletlaw12_find.l1 (R : Ending → World → Prop) : (Sl × Sl × Int × Int × Unit) → World → Prop := loopW (fun k1 s w => culletlaw12_find.b1 R k1 s.1 s.2.1 s.2.2.1 s.2.2.2.1 w)
def culletlaw12_find.M (R : Ending → World → Prop) (book_0 : Sl) (key_1 : Sl) (w : World) : Prop :=
  culletlaw12_find.l1 R (key_1, book_0, ((book_0.len : Nat) : Int), 0, ()) w
noncomputable def culletlaw12_find.ann (R : Ending → World → Prop) : Ann :=
  .seq (.reg (.op 0 .now (.done))) (.seq (.seq (.reg (.op 0 .now (.op 1 .now (.op 2 .now (.done))))) (.block (.loop [(1, .at .sl), (7, .at .sl), (8, .at (.int .i64)), (9, .at (.int .i64))] (fun k1 s w => culletlaw12_find.b1 R k1 s.1 s.2.1 s.2.2.1 s.2.2.2.1 w) (fun k1 => .seq (.reg (.op 0 .now (.done))) (.seq (.cond (.leaf) (.leaf)) (.seq (.block (.seq (.reg (.op 0 .now (.op 1 (.pu (.one (.at .addr))) (.op 2 (.rd (.one (.agg [.sl, .sl]))) (.op 3 (.wr (.one (.at .addr))) (.op 4 .now (.op 5 .wu (.done)))))))) (.seq (.reg (.op 0 .now (.op 1 (.rd (.one (.at .sl))) (.op 2 .now (.op 3 (.cl (.one (.at .bool))) (.done)))))) (.cond (.seq (.reg (.op 0 .now (.op 1 .now (.done)))) (.leaf)) (.leaf))))) (.reg (.op 0 .now (.op 1 .now (.done)))))))))) (.seq (.reg (.op 0 .now (.done))) (.leaf)))
theorem culletlaw12_find.run (R : Ending → World → Prop) (book_0 : Sl) (key_1 : Sl) (w : World) (h : culletlaw12_find.M R book_0 key_1 w) : Calls Try.prog 14 #[(.slice book_0.base book_0.len book_0.cap), (.slice key_1.base key_1.len key_1.cap)] w R := by
  refine calls_of_lift mix_eq Try.func14 (c := culletlaw12_find.body) (by kernel_rfl) [.at (.int .i64)] (culletlaw12_find.ann R) 20 Try.ntmps14 [.tmp 4] (by kernel_rfl) (Nat.le_of_ble_eq_true (by kernel_rfl)) ?_ ?_
  · exact ⟨trivial, ⟨⟨trivial, (fun k1 => ⟨fun s w h => Eq.mp (by kernel_rfl) h, ⟨trivial, ⟨⟨trivial, trivial⟩, ⟨⟨trivial, ⟨trivial, ⟨⟨trivial, trivial⟩, trivial⟩⟩⟩, trivial⟩⟩⟩⟩)⟩, ⟨trivial, trivial⟩⟩⟩
  · exact Eq.mp (show culletlaw12_find.M R book_0 key_1 w = _ by kernel_rfl) h

noncomputable def trie_Trie_Put.body : Code := (Try.f15.body).getD .skip
def trie_Trie_Put.j2 (R : Ending → World → Prop)  (k1 : ((Option Addr) × Sl × (Option Addr) × Sl × Int × Int × Unit) → World → Prop) (t_0 : (Option Addr)) (value_2 : Sl) (next_11 : (Option Addr)) (t51 : Sl) (t52 : Int) (t53 : Int) (w : World) : Prop :=
  k1 (t_0, value_2, next_11, t51, t52, (IntKind.wrap .i64 (t53 + 1)), ()) w
def trie_Trie_Put.j3 (R : Ending → World → Prop)  (t_0 : (Option Addr)) (value_2 : Sl) (n_8 : (Option Addr)) (w : World) : Prop :=
  Cl Try.prog 43 #[(.slice value_2.base value_2.len value_2.cap)] (.one (.at .sl)) (fun (x34 : Sl) w35 =>
  Pu Try.prog (nilCk n_8) (.one (.at .addr)) (fun (x36 : Addr) w37 =>
  Wu Try.prog (Instr.storeAt 4 (.pointer (some (Addr.add x36 1))) (.bool true)) (fun w38 =>
  Pu Try.prog (nilCk n_8) (.one (.at .addr)) (fun (x39 : Addr) w40 =>
  Wu Try.prog (Instr.storeAt 30 (.pointer (some (Addr.add x39 2))) (.slice x34.base x34.len x34.cap)) (fun w41 =>
  Cl Try.prog 44 #[(.pointer t_0), (.pointer n_8)] (.tup []) (fun x42 w43 =>
  R (.returned (.int .i64 0)) w43) w41) w40) w38) w37) w35) w
def trie_Trie_Put.b1 (R : Ending → World → Prop) (k1 : ((Option Addr) × Sl × (Option Addr) × Sl × Int × Int × Unit) → World → Prop) (t_0 : (Option Addr)) (value_2 : Sl) (n_8 : (Option Addr)) (t51 : Sl) (t52 : Int) (t53 : Int) (w : World) : Prop :=
  Cd (decide (t53 < t52)) (Pu Try.prog (Instr.indexAt 29 (.slice t51.base t51.len t51.cap) (.int .i64 t53)) (.one (.at .addr)) (fun (x15 : Addr) w16 =>
  Rd Try.prog (Instr.loadAt 3 (.pointer (some x15))) (.one (.at (.int .i64))) (fun (x17 : Int) w18 =>
  Pu Try.prog (nilCk n_8) (.one (.at .addr)) (fun (x19 : Addr) w20 =>
  Rd Try.prog (Instr.loadAt 79 (.pointer (some x19))) (.one (.at .map)) (fun (x21 : (Option Nat)) w22 =>
  Rd Try.prog (Instr.lookup 79 (.map x21) (.int .i64 x17) false) (.one (.at .ptr)) (fun (x23 : (Option Addr)) w24 =>
  Pu Try.prog (do eqGuard .eql 74 (.tmp 63) (.const (.pointer none)) (.pointer x23) (.pointer none); binOp .eql 74 (.pointer x23) (.pointer none)) (.one (.at .bool)) (fun (x25 : Bool) w26 =>
  Cd x25 (Cl Try.prog 40 #[] (.one (.at .ptr)) (fun (x27 : (Option Addr)) w28 =>
  Pu Try.prog (nilCk n_8) (.one (.at .addr)) (fun (x29 : Addr) w30 =>
  Rd Try.prog (Instr.loadAt 79 (.pointer (some x29))) (.one (.at .map)) (fun (x31 : (Option Nat)) w32 =>
  Wu Try.prog (Instr.mapUpdate 79 (.map x31) (.int .i64 x17) (.pointer x27)) (fun w33 =>
  trie_Trie_Put.j2 R k1 t_0 value_2 x27 t51 t52 t53 w33) w32) w30) w28) w26) (trie_Trie_Put.j2 R k1 t_0 value_2 x23 t51 t52 t53 w26)) w24) w22) w20) w18) w16) w) (Pu Try.prog (nilCk n_8) (.one (.at .addr)) (fun (x44 : Addr) w45 =>
  Rd Try.prog (Instr.loadAt 4 (.pointer (some (Addr.add x44 1)))) (.one (.at .bool)) (fun (x46 : Bool) w47 =>
  Cd (!x46) (Pu Try.prog (nilCk t_0) (.one (.at .addr)) (fun (x48 : Addr) w49 =>
  Rd Try.prog (Instr.loadAt 3 (.pointer (some (Addr.add x48 2)))) (.one (.at (.int .i64))) (fun (x50 : Int) w51 =>
  Pu Try.prog (nilCk t_0) (.one (.at .addr)) (fun (x52 : Addr) w53 =>
  Wu Try.prog (Instr.storeAt 3 (.pointer (some (Addr.add x52 2))) (.int .i64 (IntKind.wrap .i64 (x50 + 1)))) (fun w54 =>
  trie_Trie_Put.j3 R t_0 value_2 n_8 w54) w53) w51) w49) w47) (trie_Trie_Put.j3 R t_0 value_2 n_8 w47)) w45) w)
def trie_Trie_Put.l1 (R : Ending → World → Prop) : ((Option Addr) × Sl × (Option Addr) × Sl × Int × Int × Unit) → World → Prop := loopW (fun k1 s w => trie_Trie_Put.b1 R k1 s.1 s.2.1 s.2.2.1 s.2.2.2.1 s.2.2.2.2.1 s.2.2.2.2.2.1 w)
def trie_Trie_Put.j1 (R : Ending → World → Prop)  (t_0 : (Option Addr)) (key_1 : Sl) (value_2 : Sl) (w : World) : Prop :=
  Pu Try.prog (nilCk t_0) (.one (.at .addr)) (fun (x11 : Addr) w12 =>
  Rd Try.prog (Instr.loadAt 74 (.pointer (some x11))) (.one (.at .ptr)) (fun (x13 : (Option Addr)) w14 =>
  trie_Trie_Put.l1 R (t_0, value_2, x13, key_1, ((key_1.len : Nat) : Int), 0, ()) w14) w12) w
def trie_Trie_Put.j4 (R : Ending → World → Prop)  (t_0 : (Option Addr)) (key_1 : Sl) (value_2 : Sl) (t36 : Bool) (w : World) : Prop :=
  Cd t36 (Cl Try.prog 23 #[(.pointer t_0)] (.one (.at .sl)) (fun (x55 : Sl) w56 =>
  Pu Try.prog (Instr.indexAt 45 (.slice x55.base x55.len x55.cap) (.int .i64 (IntKind.wrap .i64 (((x55.len : Nat) : Int) - 1)))) (.one (.at .addr)) (fun (x57 : Addr) w58 =>
  Rd Try.prog (Instr.loadAt 29 (.pointer (some x57))) (.one (.at .sl)) (fun (x59 : Sl) w60 =>
  Cl Try.prog 22 #[(.pointer t_0), (.slice x59.base x59.len x59.cap)] (.one (.at .bool)) (fun (x61 : Bool) w62 =>
  trie_Trie_Put.j1 R t_0 key_1 value_2 w62) w60) w58) w56) w) (trie_Trie_Put.j1 R t_0 key_1 value_2 w)
def trie_Trie_Put.M (R : Ending → World → Prop) (t_0 : (Option Addr)) (key_1 : Sl) (value_2 : Sl) (w : World) : Prop :=
  Pu Try.prog (do eqGuard .eql 23 (.tmp 12) (.const (.pointer none)) (.pointer t_0) (.pointer none); binOp .eql 23 (.pointer t_0) (.pointer none)) (.one (.at .bool)) (fun (x1 : Bool) w2 =>
  Cd x1 (R (.returned (.int .i64 1)) w2) (Cl Try.prog 41 #[(.slice key_1.base key_1.len key_1.cap)] (.one (.at .bool)) (fun (x3 : Bool) w4 =>
  Cd (!x3) (R (.returned (.int .i64 120)) w4) (Pu Try.prog (nilCk t_0) (.one (.at .addr)) (fun (x5 : Addr) w6 =>
  Rd Try.prog (Instr.loadAt 74 (.pointer (some x5))) (.one (.at .ptr)) (fun (x7 : (Option Addr)) w8 =>
  Pu Try.prog (do eqGuard .eql 74 (.tmp 20) (.const (.pointer none)) (.pointer x7) (.pointer none); binOp .eql 74 (.pointer x7) (.pointer none)) (.one (.at .bool)) (fun (x9 : Bool) w10 =>
  Cd x9 (R (.returned (.int .i64 0)) w10) (Held w10.drew (fun S63 => Cl Try.prog 42 #[(.pointer t_0), (.slice key_1.base key_1.len key_1.cap)] (.one (.at .ptr)) (fun (x64 : (Option Addr)) w65 =>
  S63 w65 ∧ (Pu Try.prog (do eqGuard .eql 74 (.tmp 24) (.const (.pointer none)) (.pointer x64) (.pointer none); binOp .eql 74 (.pointer x64) (.pointer none)) (.one (.at .bool)) (fun (x66 : Bool) w67 =>
  Cd x66 (Pu Try.prog (nilCk t_0) (.one (.at .addr)) (fun (x68 : Addr) w69 =>
  RdS Try.prog S63 (Instr.loadAt 3 (.pointer (some (Addr.add x68 2)))) (.one (.at (.int .i64))) (fun (x70 : Int) w71 =>
  Pu Try.prog (nilCk t_0) (.one (.at .addr)) (fun (x72 : Addr) w73 =>
  RdS Try.prog S63 (Instr.loadAt 3 (.pointer (some (Addr.add x72 1)))) (.one (.at (.int .i64))) (fun (x74 : Int) w75 =>
  trie_Trie_Put.j4 R t_0 key_1 value_2 (decide (x70 ≥ x74)) w75) w73) w71) w69) w67) (trie_Trie_Put.j4 R t_0 key_1 value_2 false w67)) w65)) w10.drew))) w8) w6) w4)) w2)) w
noncomputable def trie_Trie_Put.ann (R : Ending → World → Prop) : Ann :=
  .seq (.reg (.op 0 .now (.done))) (.seq (.seq (.reg (.op 0 .now (.op 1 (.pu (.one (.at .bool))) (.done)))) (.cond (.seq (.reg (.op 0 .now (.done))) (.leaf)) (.leaf))) (.seq (.seq (.reg (.op 0 .now (.op 1 (.cl (.one (.at .bool))) (.op 2 .now (.done))))) (.cond (.seq (.reg (.op 0 .now (.done))) (.leaf)) (.leaf))) (.seq (.seq (.reg (.op 0 .now (.op 1 (.pu (.one (.at .addr))) (.op 2 .now (.op 3 (.rd (.one (.at .ptr))) (.op 4 (.pu (.one (.at .bool))) (.done))))))) (.cond (.seq (.reg (.op 0 .now (.done))) (.leaf)) (.leaf))) (.join [(0, .at .ptr), (1, .at .sl), (2, .at .sl)] (fun s w => trie_Trie_Put.j1 R s.1 s.2.1 s.2.2.1 w) (.join [(0, .at .ptr), (1, .at .sl), (2, .at .sl), (36, .at .bool)] (fun s w => trie_Trie_Put.j4 R s.1 s.2.1 s.2.2.1 s.2.2.2.1 w) (.regD (.op 0 .now (.op 1 .now (.op 2 (.cl (.one (.at .ptr))) (.op 3 (.pu (.one (.at .bool))) (.op 4 .now (.split 4 (.op 5 .now (.op 6 (.pu (.one (.at .addr))) (.op 7 .now (.op 8 (.rd (.one (.at (.int .i64)))) (.op 9 .now (.op 10 (.pu (.one (.at .addr))) (.op 11 .now (.op 12 (.rd (.one (.at (.int .i64)))) (.op 13 .now (.op 14 .now (.done))))))))))) (.skip 5 (.skip 6 (.skip 7 (.skip 8 (.skip 9 (.skip 10 (.skip 11 (.skip 12 (.skip 13 (.op 14 .now (.done)))))))))))))))))) (.cond (.seq (.reg (.op 0 .now (.op 1 (.cl (.one (.at .sl))) (.op 2 .now (.done))))) (.reg (.op 0 .now (.op 1 .now (.op 2 .now (.op 3 .now (.op 4 .now (.op 5 (.pu (.one (.at .addr))) (.op 6 (.rd (.one (.at .sl))) (.op 7 (.cl (.one (.at .bool))) (.done))))))))))) (.leaf))) (.seq (.reg (.op 0 .now (.op 1 (.pu (.one (.at .addr))) (.op 2 .now (.op 3 (.rd (.one (.at .ptr))) (.op 4 .now (.done))))))) (.seq (.seq (.reg (.op 0 .now (.op 1 .now (.op 2 .now (.done))))) (.block (.loop [(0, .at .ptr), (2, .at .sl), (8, .at .ptr), (51, .at .sl), (52, .at (.int .i64)), (53, .at (.int .i64))] (fun k1 s w => trie_Trie_Put.b1 R k1 s.1 s.2.1 s.2.2.1 s.2.2.2.1 s.2.2.2.2.1 s.2.2.2.2.2.1 w) (fun k1 => .seq (.reg (.op 0 .now (.done))) (.seq (.cond (.leaf) (.leaf)) (.seq (.block (.seq (.reg (.op 0 (.pu (.one (.at .addr))) (.op 1 (.rd (.one (.at (.int .i64)))) (.op 2 .now (.done))))) (.seq (.reg (.op 0 .now (.op 1 (.pu (.one (.at .addr))) (.op 2 .now (.op 3 (.rd (.one (.at .map))) (.op 4 .now (.op 5 (.rd (.one (.at .ptr))) (.op 6 .now (.done))))))))) (.join [(0, .at .ptr), (2, .at .sl), (11, .at .ptr), (51, .at .sl), (52, .at (.int .i64)), (53, .at (.int .i64))] (fun s w => trie_Trie_Put.j2 R k1 s.1 s.2.1 s.2.2.1 s.2.2.2.1 s.2.2.2.2.1 s.2.2.2.2.2.1 w) (.seq (.reg (.op 0 .now (.op 1 (.pu (.one (.at .bool))) (.done)))) (.cond (.seq (.reg (.op 0 (.cl (.one (.at .ptr))) (.op 1 .now (.done)))) (.reg (.op 0 .now (.op 1 (.pu (.one (.at .addr))) (.op 2 .now (.op 3 (.rd (.one (.at .map))) (.op 4 .now (.op 5 .now (.op 6 .wu (.done)))))))))) (.leaf))) (.reg (.op 0 .now (.op 1 .now (.done)))))))) (.reg (.op 0 .now (.op 1 .now (.done)))))))))) (.join [(0, .at .ptr), (2, .at .sl), (8, .at .ptr)] (fun s w => trie_Trie_Put.j3 R s.1 s.2.1 s.2.2.1 w) (.seq (.reg (.op 0 .now (.op 1 (.pu (.one (.at .addr))) (.op 2 .now (.op 3 (.rd (.one (.at .bool))) (.op 4 .now (.done))))))) (.cond (.reg (.op 0 .now (.op 1 (.pu (.one (.at .addr))) (.op 2 .now (.op 3 (.rd (.one (.at (.int .i64)))) (.op 4 .now (.op 5 (.pu (.one (.at .addr))) (.op 6 .now (.op 7 .wu (.done)))))))))) (.leaf))) (.seq (.reg (.op 0 .now (.op 1 .now (.op 2 .now (.op 3 (.cl (.one (.at .sl))) (.op 4 (.pu (.one (.at .addr))) (.op 5 .now (.op 6 .wu (.op 7 (.pu (.one (.at .addr))) (.op 8 .now (.op 9 .wu (.done)))))))))))) (.seq (.reg (.op 0 .now (.op 1 .now (.op 2 (.cl (.tup [])) (.done))))) (.seq (.reg (.op 0 .now (.done))) (.leaf)))))))))))
theorem trie_Trie_Put.run (R : Ending → World → Prop) (t_0 : (Option Addr)) (key_1 : Sl) (value_2 : Sl) (w : World) (h : trie_Trie_Put.M R t_0 key_1 value_2 w) : Calls Try.prog 15 #[(.pointer t_0), (.slice key_1.base key_1.len key_1.cap), (.slice value_2.base value_2.len value_2.cap)] w R := by
  refine calls_of_lift mix_eq Try.func15 (c := trie_Trie_Put.body) (by kernel_rfl) [.at (.int .i64)] (trie_Trie_Put.ann R) 97 Try.ntmps15 [.tmp 6] (by kernel_rfl) (Nat.le_of_ble_eq_true (by kernel_rfl)) ?_ ?_
  · exact ⟨trivial, ⟨⟨trivial, ⟨⟨trivial, trivial⟩, trivial⟩⟩, ⟨⟨trivial, ⟨⟨trivial, trivial⟩, trivial⟩⟩, ⟨⟨trivial, ⟨⟨trivial, trivial⟩, trivial⟩⟩, ⟨fun s w h => Eq.mp (by kernel_rfl) h, ⟨fun s w h => Eq.mp (by kernel_rfl) h, (show Region.noSelect _ = true by kernel_rfl), ⟨⟨trivial, trivial⟩, trivial⟩⟩, ⟨trivial, ⟨⟨trivial, (fun k1 => ⟨fun s w h => Eq.mp (by kernel_rfl) h, ⟨trivial, ⟨⟨trivial, trivial⟩, ⟨⟨trivial, ⟨trivial, ⟨fun s w h => Eq.mp (by kernel_rfl) h, ⟨trivial, ⟨⟨trivial, trivial⟩, trivial⟩⟩, trivial⟩⟩⟩, trivial⟩⟩⟩⟩)⟩, ⟨fun s w h => Eq.mp (by kernel_rfl) h, ⟨trivial, ⟨trivial, trivial⟩⟩, ⟨trivial, ⟨trivial, ⟨trivial, trivial⟩⟩⟩⟩⟩⟩⟩⟩⟩⟩⟩
  · exact Eq.mp (show trie_Trie_Put.M R t_0 key_1 value_2 w = _ by kernel_rfl) h

noncomputable def culletref12_CopyKey.body : Code := (Try.f16.body).getD .skip
def culletref12_CopyKey.M (R : Ending → World → Prop) (key_0 : Sl) (w : World) : Prop :=
  Wr Try.prog (Instr.buildSlice 29 0 #[]) (.one (.at .sl)) (fun (x1 : Sl) w2 =>
  Wr Try.prog (Builtin.append_ #[29, 29] 29 #[(.slice x1.base x1.len x1.cap), (.slice key_0.base key_0.len key_0.cap)]) (.one (.at .sl)) (fun (x3 : Sl) w4 =>
  R (.returned (.slice x3.base x3.len x3.cap)) w4) w2) w
noncomputable def culletref12_CopyKey.ann (R : Ending → World → Prop) : Ann :=
  .seq (.reg (.op 0 .now (.done))) (.seq (.reg (.op 0 (.wr (.one (.at .sl))) (.op 1 .now (.op 2 (.wr (.one (.at .sl))) (.op 3 .now (.done)))))) (.leaf))
theorem culletref12_CopyKey.run (R : Ending → World → Prop) (key_0 : Sl) (w : World) (h : culletref12_CopyKey.M R key_0 w) : Calls Try.prog 16 #[(.slice key_0.base key_0.len key_0.cap)] w R := by
  refine calls_of_lift mix_eq Try.func16 (c := culletref12_CopyKey.body) (by kernel_rfl) [.at .sl] (culletref12_CopyKey.ann R) 6 Try.ntmps16 [.tmp 2] (by kernel_rfl) (Nat.le_of_ble_eq_true (by kernel_rfl)) ?_ ?_
  · exact ⟨trivial, ⟨trivial, trivial⟩⟩
  · exact Eq.mp (show culletref12_CopyKey.M R key_0 w = _ by kernel_rfl) h

noncomputable def culletref12_CopyValue.body : Code := (Try.f17.body).getD .skip
def culletref12_CopyValue.b1 (R : Ending → World → Prop) (k1 : (Sl × Sl × Int × Int × Unit) → World → Prop) (out_3 : Sl) (t6 : Sl) (t7 : Int) (t8 : Int) (w : World) : Prop :=
  Cd (decide (t8 < t7)) (Pu Try.prog (Instr.indexAt 30 (.slice t6.base t6.len t6.cap) (.int .i64 t8)) (.one (.at .addr)) (fun (x1 : Addr) w2 =>
  Rd Try.prog (Instr.loadAt 52 (.pointer (some x1))) (.one (.at .sl)) (fun (x3 : Sl) w4 =>
  Wr Try.prog (Instr.buildSlice 52 0 #[]) (.one (.at .sl)) (fun (x5 : Sl) w6 =>
  Wr Try.prog (Builtin.append_ #[52, 52] 52 #[(.slice x5.base x5.len x5.cap), (.slice x3.base x3.len x3.cap)]) (.one (.at .sl)) (fun (x7 : Sl) w8 =>
  Wr Try.prog (Instr.buildSlice 30 1 #[(0, (.slice x7.base x7.len x7.cap))]) (.one (.at .sl)) (fun (x9 : Sl) w10 =>
  Wr Try.prog (Builtin.append_ #[30, 30] 30 #[(.slice out_3.base out_3.len out_3.cap), (.slice x9.base x9.len x9.cap)]) (.one (.at .sl)) (fun (x11 : Sl) w12 =>
  k1 (x11, t6, t7, (IntKind.wrap .i64 (t8 + 1)), ()) w12) w10) w8) w6) w4) w2) w) (R (.returned (.slice out_3.base out_3.len out_3.cap)) w)
def culletref12_CopyValue.l1 (R : Ending → World → Prop) : (Sl × Sl × Int × Int × Unit) → World → Prop := loopW (fun k1 s w => culletref12_CopyValue.b1 R k1 s.1 s.2.1 s.2.2.1 s.2.2.2.1 w)
def culletref12_CopyValue.M (R : Ending → World → Prop) (value_0 : Sl) (w : World) : Prop :=
  culletref12_CopyValue.l1 R (⟨none, 0, 0⟩, value_0, ((value_0.len : Nat) : Int), 0, ()) w
noncomputable def culletref12_CopyValue.ann (R : Ending → World → Prop) : Ann :=
  .seq (.reg (.op 0 .now (.done))) (.seq (.reg (.op 0 .now (.done))) (.seq (.seq (.reg (.op 0 .now (.op 1 .now (.op 2 .now (.done))))) (.block (.loop [(3, .at .sl), (6, .at .sl), (7, .at (.int .i64)), (8, .at (.int .i64))] (fun k1 s w => culletref12_CopyValue.b1 R k1 s.1 s.2.1 s.2.2.1 s.2.2.2.1 w) (fun k1 => .seq (.reg (.op 0 .now (.done))) (.seq (.cond (.leaf) (.leaf)) (.seq (.block (.seq (.reg (.op 0 (.pu (.one (.at .addr))) (.op 1 (.rd (.one (.at .sl))) (.op 2 .now (.done))))) (.reg (.op 0 .now (.op 1 (.wr (.one (.at .sl))) (.op 2 .now (.op 3 (.wr (.one (.at .sl))) (.op 4 (.wr (.one (.at .sl))) (.op 5 (.wr (.one (.at .sl))) (.op 6 .now (.done))))))))))) (.reg (.op 0 .now (.op 1 .now (.done)))))))))) (.seq (.reg (.op 0 .now (.op 1 .now (.done)))) (.leaf))))
theorem culletref12_CopyValue.run (R : Ending → World → Prop) (value_0 : Sl) (w : World) (h : culletref12_CopyValue.M R value_0 w) : Calls Try.prog 17 #[(.slice value_0.base value_0.len value_0.cap)] w R := by
  refine calls_of_lift mix_eq Try.func17 (c := culletref12_CopyValue.body) (by kernel_rfl) [.at .sl] (culletref12_CopyValue.ann R) 20 Try.ntmps17 [.tmp 2] (by kernel_rfl) (Nat.le_of_ble_eq_true (by kernel_rfl)) ?_ ?_
  · exact ⟨trivial, ⟨trivial, ⟨⟨trivial, (fun k1 => ⟨fun s w h => Eq.mp (by kernel_rfl) h, ⟨trivial, ⟨⟨trivial, trivial⟩, ⟨⟨trivial, trivial⟩, trivial⟩⟩⟩⟩)⟩, ⟨trivial, trivial⟩⟩⟩⟩
  · exact Eq.mp (show culletref12_CopyValue.M R value_0 w = _ by kernel_rfl) h

noncomputable def culletlaw12_noted.body : Code := (Try.f18.body).getD .skip
def culletlaw12_noted.j1 (R : Ending → World → Prop)  (book_0 : Sl) (o_3 : Addr) (h_5 : Addr) (w : World) : Prop :=
  Rd Try.prog (Instr.loadAt 29 (.pointer (some (Addr.add o_3 2)))) (.one (.at .sl)) (fun (x3 : Sl) w4 =>
  Cl Try.prog 14 #[(.slice book_0.base book_0.len book_0.cap), (.slice x3.base x3.len x3.cap)] (.one (.at (.int .i64))) (fun (x5 : Int) w6 =>
  Cd (decide (x5 < 0)) (Rd Try.prog (Instr.loadAt 43 (.pointer (some h_5))) (.one (.agg [.sl, .sl])) (fun x7 w8 =>
  Wr Try.prog (Instr.buildSlice 28 1 #[(0, (.agg #[(.slice x7.1.base x7.1.len x7.1.cap), (.slice x7.2.1.base x7.2.1.len x7.2.1.cap)]))]) (.one (.at .sl)) (fun (x9 : Sl) w10 =>
  Wr Try.prog (Builtin.append_ #[28, 28] 28 #[(.slice book_0.base book_0.len book_0.cap), (.slice x9.base x9.len x9.cap)]) (.one (.at .sl)) (fun (x11 : Sl) w12 =>
  R (.returned (.slice x11.base x11.len x11.cap)) w12) w10) w8) w6) (Rd Try.prog (Instr.loadAt 43 (.pointer (some h_5))) (.one (.agg [.sl, .sl])) (fun x13 w14 =>
  Pu Try.prog (Instr.indexAt 28 (.slice book_0.base book_0.len book_0.cap) (.int .i64 x5)) (.one (.at .addr)) (fun (x15 : Addr) w16 =>
  Wu Try.prog (Instr.storeAt 43 (.pointer (some x15)) (.agg #[(.slice x13.1.base x13.1.len x13.1.cap), (.slice x13.2.1.base x13.2.1.len x13.2.1.cap)])) (fun w17 =>
  R (.returned (.slice book_0.base book_0.len book_0.cap)) w17) w16) w14) w6)) w4) w
def culletlaw12_noted.M (R : Ending → World → Prop) (book_0 : Sl) (o_1 : (Int × Int × Sl × Sl × Unit)) (w : World) : Prop :=
  Wr Try.prog (Instr.box 32 (.agg #[(.int .i64 o_1.1), (.int .i64 o_1.2.1), (.slice o_1.2.2.1.base o_1.2.2.1.len o_1.2.2.1.cap), (.slice o_1.2.2.2.1.base o_1.2.2.2.1.len o_1.2.2.2.1.cap)])) (.one (.at .addr)) (fun (x1 : Addr) w2 =>
  Held w2.drew (fun S18 => RdS Try.prog S18 (Instr.loadAt 29 (.pointer (some (Addr.add x1 2)))) (.one (.at .sl)) (fun (x19 : Sl) w20 =>
  RdS Try.prog S18 (Instr.loadAt 30 (.pointer (some (Addr.add x1 3)))) (.one (.at .sl)) (fun (x21 : Sl) w22 =>
  (Cl Try.prog 16 #[(.slice x19.base x19.len x19.cap)] (.one (.at .sl)) (fun (x23 : Sl) w24 =>
  S18 w24 ∧ ((Cl Try.prog 17 #[(.slice x21.base x21.len x21.cap)] (.one (.at .sl)) (fun (x25 : Sl) w26 =>
  S18 w26 ∧ (Wr Try.prog (Instr.alloc 43 true (.tuple #[])) (.one (.at .addr)) (fun (x27 : Addr) w28 =>
  S18 w28 ∧ (Wu Try.prog (Instr.storeAt 43 (.pointer (some x27)) (.agg #[(.slice x23.base x23.len x23.cap), (.slice x25.base x25.len x25.cap)])) (fun w29 =>
  S18 w29 ∧ (culletlaw12_noted.j1 R book_0 x1 x27 w29)) w28)) w26)) w24) ∧ (Wr Try.prog (Instr.alloc 43 true (.tuple #[])) (.one (.at .addr)) (fun (x30 : Addr) w31 =>
  S18 w31 ∧ (Cl Try.prog 17 #[(.slice x21.base x21.len x21.cap)] (.one (.at .sl)) (fun (x32 : Sl) w33 =>
  S18 w33 ∧ (Wu Try.prog (Instr.storeAt 43 (.pointer (some x30)) (.agg #[(.slice x23.base x23.len x23.cap), (.slice x32.base x32.len x32.cap)])) (fun w34 =>
  S18 w34 ∧ (culletlaw12_noted.j1 R book_0 x1 x30 w34)) w33)) w31)) w24))) w22) ∧ (Wr Try.prog (Instr.alloc 43 true (.tuple #[])) (.one (.at .addr)) (fun (x35 : Addr) w36 =>
  S18 w36 ∧ (Cl Try.prog 16 #[(.slice x19.base x19.len x19.cap)] (.one (.at .sl)) (fun (x37 : Sl) w38 =>
  S18 w38 ∧ (Cl Try.prog 17 #[(.slice x21.base x21.len x21.cap)] (.one (.at .sl)) (fun (x39 : Sl) w40 =>
  S18 w40 ∧ (Wu Try.prog (Instr.storeAt 43 (.pointer (some x35)) (.agg #[(.slice x37.base x37.len x37.cap), (.slice x39.base x39.len x39.cap)])) (fun w41 =>
  S18 w41 ∧ (culletlaw12_noted.j1 R book_0 x1 x35 w41)) w40)) w38)) w36)) w22)) w20) w2.drew)) w
noncomputable def culletlaw12_noted.ann (R : Ending → World → Prop) : Ann :=
  .seq (.reg (.op 0 (.wr (.one (.at .addr))) (.op 1 .now (.done)))) (.join [(0, .at .sl), (3, .at .addr), (5, .at .addr)] (fun s w => culletlaw12_noted.j1 R s.1 s.2.1 s.2.2.1 w) (.regD (.op 0 .now (.op 1 (.rd (.one (.at .sl))) (.op 3 .now (.op 4 (.rd (.one (.at .sl))) (.fork2 2 (.cl (.one (.at .sl))) (.fork2 5 (.cl (.one (.at .sl))) (.op 6 .now (.op 7 (.wr (.one (.at .addr))) (.op 8 .wu (.done)))) 7 (.wr (.one (.at .addr))) (.op 5 (.cl (.one (.at .sl))) (.op 6 .now (.op 8 .wu (.done))))) 7 (.wr (.one (.at .addr))) (.op 2 (.cl (.one (.at .sl))) (.op 5 (.cl (.one (.at .sl))) (.op 6 .now (.op 8 .wu (.done))))))))))) (.seq (.reg (.op 0 .now (.op 1 .now (.op 2 (.rd (.one (.at .sl))) (.op 3 (.cl (.one (.at (.int .i64)))) (.op 4 .now (.done))))))) (.seq (.seq (.reg (.op 0 .now (.op 1 .now (.done)))) (.cond (.seq (.reg (.op 0 .now (.op 1 (.rd (.one (.agg [.sl, .sl]))) (.op 2 (.wr (.one (.at .sl))) (.op 3 (.wr (.one (.at .sl))) (.op 4 .now (.done))))))) (.leaf)) (.leaf))) (.seq (.reg (.op 0 .now (.op 1 .now (.op 2 (.rd (.one (.agg [.sl, .sl]))) (.op 3 (.pu (.one (.at .addr))) (.op 4 .wu (.done))))))) (.seq (.reg (.op 0 .now (.op 1 .now (.done)))) (.leaf))))))
theorem culletlaw12_noted.run (R : Ending → World → Prop) (book_0 : Sl) (o_1 : (Int × Int × Sl × Sl × Unit)) (w : World) (h : culletlaw12_noted.M R book_0 o_1 w) : Calls Try.prog 18 #[(.slice book_0.base book_0.len book_0.cap), (.agg #[(.int .i64 o_1.1), (.int .i64 o_1.2.1), (.slice o_1.2.2.1.base o_1.2.2.1.len o_1.2.2.1.cap), (.slice o_1.2.2.2.1.base o_1.2.2.2.1.len o_1.2.2.2.1.cap)])] w R := by
  refine calls_of_lift mix_eq Try.func18 (c := culletlaw12_noted.body) (by kernel_rfl) [.at .sl] (culletlaw12_noted.ann R) 29 Try.ntmps18 [.tmp 4] (by kernel_rfl) (Nat.le_of_ble_eq_true (by kernel_rfl)) ?_ ?_
  · exact ⟨trivial, ⟨fun s w h => Eq.mp (by kernel_rfl) h, (show Region.noSelect _ = true by kernel_rfl), ⟨trivial, ⟨⟨trivial, ⟨⟨trivial, trivial⟩, trivial⟩⟩, ⟨trivial, ⟨trivial, trivial⟩⟩⟩⟩⟩⟩
  · exact Eq.mp (show culletlaw12_noted.M R book_0 o_1 w = _ by kernel_rfl) h

noncomputable def trie_Trie_Get.body : Code := (Try.f19.body).getD .skip
def trie_Trie_Get.M (R : Ending → World → Prop) (t_0 : (Option Addr)) (key_1 : Sl) (w : World) : Prop :=
  Cl Try.prog 42 #[(.pointer t_0), (.slice key_1.base key_1.len key_1.cap)] (.one (.at .ptr)) (fun (x1 : (Option Addr)) w2 =>
  Pu Try.prog (do eqGuard .eql 74 (.tmp 10) (.const (.pointer none)) (.pointer x1) (.pointer none); binOp .eql 74 (.pointer x1) (.pointer none)) (.one (.at .bool)) (fun (x3 : Bool) w4 =>
  Cd x3 (R (.returned (.tuple #[(.slice none 0 0), (.bool false)])) w4) (Cl Try.prog 44 #[(.pointer t_0), (.pointer x1)] (.tup []) (fun x5 w6 =>
  Pu Try.prog (nilCk x1) (.one (.at .addr)) (fun (x7 : Addr) w8 =>
  Rd Try.prog (Instr.loadAt 30 (.pointer (some (Addr.add x7 2)))) (.one (.at .sl)) (fun (x9 : Sl) w10 =>
  Cl Try.prog 43 #[(.slice x9.base x9.len x9.cap)] (.one (.at .sl)) (fun (x11 : Sl) w12 =>
  R (.returned (.tuple #[(.slice x11.base x11.len x11.cap), (.bool true)])) w12) w10) w8) w6) w4)) w2) w
noncomputable def trie_Trie_Get.ann (R : Ending → World → Prop) : Ann :=
  .seq (.reg (.op 0 .now (.op 1 .now (.done)))) (.seq (.reg (.op 0 .now (.op 1 .now (.op 2 (.cl (.one (.at .ptr))) (.op 3 .now (.done)))))) (.seq (.seq (.reg (.op 0 .now (.op 1 (.pu (.one (.at .bool))) (.done)))) (.cond (.seq (.reg (.op 0 .now (.op 1 .now (.done)))) (.leaf)) (.leaf))) (.seq (.reg (.op 0 .now (.op 1 .now (.op 2 (.cl (.tup [])) (.done))))) (.seq (.reg (.op 0 .now (.op 1 (.pu (.one (.at .addr))) (.op 2 .now (.op 3 (.rd (.one (.at .sl))) (.op 4 (.cl (.one (.at .sl))) (.op 5 .now (.op 6 .now (.done))))))))) (.leaf)))))
theorem trie_Trie_Get.run (R : Ending → World → Prop) (t_0 : (Option Addr)) (key_1 : Sl) (w : World) (h : trie_Trie_Get.M R t_0 key_1 w) : Calls Try.prog 19 #[(.pointer t_0), (.slice key_1.base key_1.len key_1.cap)] w R := by
  refine calls_of_lift mix_eq Try.func19 (c := trie_Trie_Get.body) (by kernel_rfl) [.at .sl, .at .bool] (trie_Trie_Get.ann R) 20 Try.ntmps19 [.tmp 4, .tmp 5] (by kernel_rfl) (Nat.le_of_ble_eq_true (by kernel_rfl)) ?_ ?_
  · exact ⟨trivial, ⟨trivial, ⟨⟨trivial, ⟨⟨trivial, trivial⟩, trivial⟩⟩, ⟨trivial, ⟨trivial, trivial⟩⟩⟩⟩⟩
  · exact Eq.mp (show trie_Trie_Get.M R t_0 key_1 w = _ by kernel_rfl) h

noncomputable def trie_Trie_Peek.body : Code := (Try.f20.body).getD .skip
def trie_Trie_Peek.M (R : Ending → World → Prop) (t_0 : (Option Addr)) (key_1 : Sl) (w : World) : Prop :=
  Cl Try.prog 42 #[(.pointer t_0), (.slice key_1.base key_1.len key_1.cap)] (.one (.at .ptr)) (fun (x1 : (Option Addr)) w2 =>
  Pu Try.prog (do eqGuard .eql 74 (.tmp 10) (.const (.pointer none)) (.pointer x1) (.pointer none); binOp .eql 74 (.pointer x1) (.pointer none)) (.one (.at .bool)) (fun (x3 : Bool) w4 =>
  Cd x3 (R (.returned (.tuple #[(.slice none 0 0), (.bool false)])) w4) (Pu Try.prog (nilCk x1) (.one (.at .addr)) (fun (x5 : Addr) w6 =>
  Rd Try.prog (Instr.loadAt 30 (.pointer (some (Addr.add x5 2)))) (.one (.at .sl)) (fun (x7 : Sl) w8 =>
  Cl Try.prog 43 #[(.slice x7.base x7.len x7.cap)] (.one (.at .sl)) (fun (x9 : Sl) w10 =>
  R (.returned (.tuple #[(.slice x9.base x9.len x9.cap), (.bool true)])) w10) w8) w6) w4)) w2) w
noncomputable def trie_Trie_Peek.ann (R : Ending → World → Prop) : Ann :=
  .seq (.reg (.op 0 .now (.op 1 .now (.done)))) (.seq (.reg (.op 0 .now (.op 1 .now (.op 2 (.cl (.one (.at .ptr))) (.op 3 .now (.done)))))) (.seq (.seq (.reg (.op 0 .now (.op 1 (.pu (.one (.at .bool))) (.done)))) (.cond (.seq (.reg (.op 0 .now (.op 1 .now (.done)))) (.leaf)) (.leaf))) (.seq (.reg (.op 0 .now (.op 1 (.pu (.one (.at .addr))) (.op 2 .now (.op 3 (.rd (.one (.at .sl))) (.op 4 (.cl (.one (.at .sl))) (.op 5 .now (.op 6 .now (.done))))))))) (.leaf))))
theorem trie_Trie_Peek.run (R : Ending → World → Prop) (t_0 : (Option Addr)) (key_1 : Sl) (w : World) (h : trie_Trie_Peek.M R t_0 key_1 w) : Calls Try.prog 20 #[(.pointer t_0), (.slice key_1.base key_1.len key_1.cap)] w R := by
  refine calls_of_lift mix_eq Try.func20 (c := trie_Trie_Peek.body) (by kernel_rfl) [.at .sl, .at .bool] (trie_Trie_Peek.ann R) 17 Try.ntmps20 [.tmp 4, .tmp 5] (by kernel_rfl) (Nat.le_of_ble_eq_true (by kernel_rfl)) ?_ ?_
  · exact ⟨trivial, ⟨trivial, ⟨⟨trivial, ⟨⟨trivial, trivial⟩, trivial⟩⟩, ⟨trivial, trivial⟩⟩⟩⟩
  · exact Eq.mp (show trie_Trie_Peek.M R t_0 key_1 w = _ by kernel_rfl) h

noncomputable def culletlaw12_sameValue.body : Code := (Try.f21.body).getD .skip
def culletlaw12_sameValue.b1 (R : Ending → World → Prop) (k1 : (Sl × Sl × Int × Int × Unit) → World → Prop) (a_0 : Sl) (b_1 : Sl) (t12 : Int) (t13 : Int) (w : World) : Prop :=
  Cd (decide (t13 < t12)) (Held w.drew (fun S1 => Pu Try.prog (Instr.indexAt 30 (.slice a_0.base a_0.len a_0.cap) (.int .i64 t13)) (.one (.at .addr)) (fun (x2 : Addr) w3 =>
  RdS Try.prog S1 (Instr.loadAt 52 (.pointer (some x2))) (.one (.at .sl)) (fun (x4 : Sl) w5 =>
  Pu Try.prog (Instr.indexAt 30 (.slice b_1.base b_1.len b_1.cap) (.int .i64 t13)) (.one (.at .addr)) (fun (x6 : Addr) w7 =>
  RdS Try.prog S1 (Instr.loadAt 52 (.pointer (some x6))) (.one (.at .sl)) (fun (x8 : Sl) w9 =>
  Cl Try.prog 45 #[(.slice x4.base x4.len x4.cap), (.slice x8.base x8.len x8.cap)] (.one (.at .bool)) (fun (x10 : Bool) w11 =>
  S1 w11 ∧ (Cd (!x10) (R (.returned (.bool false)) w11) (k1 (a_0, b_1, t12, (IntKind.wrap .i64 (t13 + 1)), ()) w11))) w9) w7) w5) w3) w.drew)) (R (.returned (.bool true)) w)
def culletlaw12_sameValue.l1 (R : Ending → World → Prop) : (Sl × Sl × Int × Int × Unit) → World → Prop := loopW (fun k1 s w => culletlaw12_sameValue.b1 R k1 s.1 s.2.1 s.2.2.1 s.2.2.2.1 w)
def culletlaw12_sameValue.M (R : Ending → World → Prop) (a_0 : Sl) (b_1 : Sl) (w : World) : Prop :=
  Cd (((a_0.len : Nat) : Int) != ((b_1.len : Nat) : Int)) (R (.returned (.bool false)) w) (culletlaw12_sameValue.l1 R (a_0, b_1, ((a_0.len : Nat) : Int), 0, ()) w)
noncomputable def culletlaw12_sameValue.ann (R : Ending → World → Prop) : Ann :=
  .seq (.reg (.op 0 .now (.done))) (.seq (.seq (.reg (.op 0 .now (.op 1 .now (.op 2 .now (.op 3 .now (.op 4 .now (.done))))))) (.cond (.seq (.reg (.op 0 .now (.done))) (.leaf)) (.leaf))) (.seq (.seq (.reg (.op 0 .now (.op 1 .now (.op 2 .now (.done))))) (.block (.loop [(0, .at .sl), (1, .at .sl), (12, .at (.int .i64)), (13, .at (.int .i64))] (fun k1 s w => culletlaw12_sameValue.b1 R k1 s.1 s.2.1 s.2.2.1 s.2.2.2.1 w) (fun k1 => .seq (.reg (.op 0 .now (.done))) (.seq (.cond (.leaf) (.leaf)) (.seq (.block (.seq (.reg (.op 0 .now (.op 1 .now (.done)))) (.seq (.regD (.op 0 .now (.op 1 .now (.op 2 (.pu (.one (.at .addr))) (.op 3 (.rd (.one (.at .sl))) (.op 4 .now (.op 5 .now (.op 6 (.pu (.one (.at .addr))) (.op 7 (.rd (.one (.at .sl))) (.op 8 (.cl (.one (.at .bool))) (.op 9 .now (.done)))))))))))) (.cond (.seq (.reg (.op 0 .now (.done))) (.leaf)) (.leaf))))) (.reg (.op 0 .now (.op 1 .now (.done)))))))))) (.seq (.reg (.op 0 .now (.done))) (.leaf))))
theorem culletlaw12_sameValue.run (R : Ending → World → Prop) (a_0 : Sl) (b_1 : Sl) (w : World) (h : culletlaw12_sameValue.M R a_0 b_1 w) : Calls Try.prog 21 #[(.slice a_0.base a_0.len a_0.cap), (.slice b_1.base b_1.len b_1.cap)] w R := by
  refine calls_of_lift mix_eq Try.func21 (c := culletlaw12_sameValue.body) (by kernel_rfl) [.at .bool] (culletlaw12_sameValue.ann R) 27 Try.ntmps21 [.tmp 4] (by kernel_rfl) (Nat.le_of_ble_eq_true (by kernel_rfl)) ?_ ?_
  · exact ⟨trivial, ⟨⟨trivial, ⟨⟨trivial, trivial⟩, trivial⟩⟩, ⟨⟨trivial, (fun k1 => ⟨fun s w h => Eq.mp (by kernel_rfl) h, ⟨trivial, ⟨⟨trivial, trivial⟩, ⟨⟨trivial, ⟨(show Region.noSelect _ = true by kernel_rfl), ⟨⟨trivial, trivial⟩, trivial⟩⟩⟩, trivial⟩⟩⟩⟩)⟩, ⟨trivial, trivial⟩⟩⟩⟩
  · exact Eq.mp (show culletlaw12_sameValue.M R a_0 b_1 w = _ by kernel_rfl) h

noncomputable def trie_Trie_Drop.body : Code := (Try.f22.body).getD .skip
def trie_Trie_Drop.M (R : Ending → World → Prop) (t_0 : (Option Addr)) (key_1 : Sl) (w : World) : Prop :=
  Cl Try.prog 42 #[(.pointer t_0), (.slice key_1.base key_1.len key_1.cap)] (.one (.at .ptr)) (fun (x1 : (Option Addr)) w2 =>
  Pu Try.prog (do eqGuard .eql 74 (.tmp 9) (.const (.pointer none)) (.pointer x1) (.pointer none); binOp .eql 74 (.pointer x1) (.pointer none)) (.one (.at .bool)) (fun (x3 : Bool) w4 =>
  Cd x3 (R (.returned (.bool false)) w4) (Pu Try.prog (nilCk x1) (.one (.at .addr)) (fun (x5 : Addr) w6 =>
  Wu Try.prog (Instr.storeAt 4 (.pointer (some (Addr.add x5 1))) (.bool false)) (fun w7 =>
  Pu Try.prog (nilCk x1) (.one (.at .addr)) (fun (x8 : Addr) w9 =>
  Wu Try.prog (Instr.storeAt 30 (.pointer (some (Addr.add x8 2))) (.slice none 0 0)) (fun w10 =>
  Pu Try.prog (nilCk t_0) (.one (.at .addr)) (fun (x11 : Addr) w12 =>
  Rd Try.prog (Instr.loadAt 3 (.pointer (some (Addr.add x11 2)))) (.one (.at (.int .i64))) (fun (x13 : Int) w14 =>
  Pu Try.prog (nilCk t_0) (.one (.at .addr)) (fun (x15 : Addr) w16 =>
  Wu Try.prog (Instr.storeAt 3 (.pointer (some (Addr.add x15 2))) (.int .i64 (IntKind.wrap .i64 (x13 - 1)))) (fun w17 =>
  Pu Try.prog (nilCk t_0) (.one (.at .addr)) (fun (x18 : Addr) w19 =>
  Rd Try.prog (Instr.loadAt 74 (.pointer (some x18))) (.one (.at .ptr)) (fun (x20 : (Option Addr)) w21 =>
  Cl Try.prog 46 #[(.pointer x20), (.slice key_1.base key_1.len key_1.cap)] (.one (.at .bool)) (fun (x22 : Bool) w23 =>
  R (.returned (.bool true)) w23) w21) w19) w17) w16) w14) w12) w10) w9) w7) w6) w4)) w2) w
noncomputable def trie_Trie_Drop.ann (R : Ending → World → Prop) : Ann :=
  .seq (.reg (.op 0 .now (.done))) (.seq (.reg (.op 0 .now (.op 1 .now (.op 2 (.cl (.one (.at .ptr))) (.op 3 .now (.done)))))) (.seq (.seq (.reg (.op 0 .now (.op 1 (.pu (.one (.at .bool))) (.done)))) (.cond (.seq (.reg (.op 0 .now (.done))) (.leaf)) (.leaf))) (.seq (.reg (.op 0 .now (.op 1 .now (.op 2 (.pu (.one (.at .addr))) (.op 3 .now (.op 4 .wu (.op 5 (.pu (.one (.at .addr))) (.op 6 .now (.op 7 .wu (.done)))))))))) (.seq (.reg (.op 0 .now (.op 1 (.pu (.one (.at .addr))) (.op 2 .now (.op 3 (.rd (.one (.at (.int .i64)))) (.op 4 .now (.op 5 (.pu (.one (.at .addr))) (.op 6 .now (.op 7 .wu (.done)))))))))) (.seq (.reg (.op 0 .now (.op 1 (.pu (.one (.at .addr))) (.op 2 .now (.op 3 (.rd (.one (.at .ptr))) (.op 4 .now (.op 5 (.cl (.one (.at .bool))) (.done)))))))) (.seq (.reg (.op 0 .now (.done))) (.leaf)))))))
theorem trie_Trie_Drop.run (R : Ending → World → Prop) (t_0 : (Option Addr)) (key_1 : Sl) (w : World) (h : trie_Trie_Drop.M R t_0 key_1 w) : Calls Try.prog 22 #[(.pointer t_0), (.slice key_1.base key_1.len key_1.cap)] w R := by
  refine calls_of_lift mix_eq Try.func22 (c := trie_Trie_Drop.body) (by kernel_rfl) [.at .bool] (trie_Trie_Drop.ann R) 30 Try.ntmps22 [.tmp 4] (by kernel_rfl) (Nat.le_of_ble_eq_true (by kernel_rfl)) ?_ ?_
  · exact ⟨trivial, ⟨trivial, ⟨⟨trivial, ⟨⟨trivial, trivial⟩, trivial⟩⟩, ⟨trivial, ⟨trivial, ⟨trivial, ⟨trivial, trivial⟩⟩⟩⟩⟩⟩⟩
  · exact Eq.mp (show trie_Trie_Drop.M R t_0 key_1 w = _ by kernel_rfl) h

noncomputable def trie_Trie_Recent.body : Code := (Try.f23.body).getD .skip
def trie_Trie_Recent.j1 (R : Ending → World → Prop)  (t_0 : (Option Addr)) (t12 : Bool) (w : World) : Prop :=
  Cd t12 (R (.returned (.slice none 0 0)) w) (Pu Try.prog (nilCk t_0) (.one (.at .addr)) (fun (x1 : Addr) w2 =>
  Rd Try.prog (Instr.loadAt 74 (.pointer (some x1))) (.one (.at .ptr)) (fun (x3 : (Option Addr)) w4 =>
  Cl Try.prog 47 #[(.pointer x3), (.slice none 0 0), (.slice none 0 0)] (.one (.at .sl)) (fun (x5 : Sl) w6 =>
  Cl Try.prog 48 #[(.slice x5.base x5.len x5.cap), (.func (.func 49) #[] #[])] (.tup []) (fun x7 w8 =>
  Cl Try.prog 50 #[(.slice x5.base x5.len x5.cap)] (.one (.at .sl)) (fun (x9 : Sl) w10 =>
  R (.returned (.slice x9.base x9.len x9.cap)) w10) w8) w6) w4) w2) w)
def trie_Trie_Recent.M (R : Ending → World → Prop) (t_0 : (Option Addr)) (w : World) : Prop :=
  Pu Try.prog (do eqGuard .eql 23 (.tmp 4) (.const (.pointer none)) (.pointer t_0) (.pointer none); binOp .eql 23 (.pointer t_0) (.pointer none)) (.one (.at .bool)) (fun (x11 : Bool) w12 =>
  Cd x11 (trie_Trie_Recent.j1 R t_0 true w12) (Pu Try.prog (nilCk t_0) (.one (.at .addr)) (fun (x13 : Addr) w14 =>
  Rd Try.prog (Instr.loadAt 74 (.pointer (some x13))) (.one (.at .ptr)) (fun (x15 : (Option Addr)) w16 =>
  Pu Try.prog (do eqGuard .eql 74 (.tmp 10) (.const (.pointer none)) (.pointer x15) (.pointer none); binOp .eql 74 (.pointer x15) (.pointer none)) (.one (.at .bool)) (fun (x17 : Bool) w18 =>
  trie_Trie_Recent.j1 R t_0 x17 w18) w16) w14) w12)) w
noncomputable def trie_Trie_Recent.ann (R : Ending → World → Prop) : Ann :=
  .seq (.reg (.op 0 .now (.done))) (.seq (.join [(0, .at .ptr), (12, .at .bool)] (fun s w => trie_Trie_Recent.j1 R s.1 s.2.1 w) (.reg (.op 0 .now (.op 1 (.pu (.one (.at .bool))) (.op 2 .now (.split 2 (.skip 3 (.skip 4 (.skip 5 (.skip 6 (.skip 7 (.op 8 .now (.done))))))) (.op 3 .now (.op 4 (.pu (.one (.at .addr))) (.op 5 .now (.op 6 (.rd (.one (.at .ptr))) (.op 7 (.pu (.one (.at .bool))) (.op 8 .now (.done)))))))))))) (.cond (.seq (.reg (.op 0 .now (.done))) (.leaf)) (.leaf))) (.seq (.reg (.op 0 .now (.op 1 (.pu (.one (.at .addr))) (.op 2 .now (.op 3 (.rd (.one (.at .ptr))) (.op 4 (.cl (.one (.at .sl))) (.op 5 .now (.done)))))))) (.seq (.reg (.op 0 .now (.op 1 (.cl (.tup [])) (.done)))) (.seq (.reg (.op 0 .now (.op 1 (.cl (.one (.at .sl))) (.op 2 .now (.done))))) (.leaf)))))
theorem trie_Trie_Recent.run (R : Ending → World → Prop) (t_0 : (Option Addr)) (w : World) (h : trie_Trie_Recent.M R t_0 w) : Calls Try.prog 23 #[(.pointer t_0)] w R := by
  refine calls_of_lift mix_eq Try.func23 (c := trie_Trie_Recent.body) (by kernel_rfl) [.at .sl] (trie_Trie_Recent.ann R) 22 Try.ntmps23 [.tmp 2] (by kernel_rfl) (Nat.le_of_ble_eq_true (by kernel_rfl)) ?_ ?_
  · exact ⟨trivial, ⟨⟨fun s w h => Eq.mp (by kernel_rfl) h, trivial, ⟨⟨trivial, trivial⟩, trivial⟩⟩, ⟨trivial, ⟨trivial, ⟨trivial, trivial⟩⟩⟩⟩⟩
  · exact Eq.mp (show trie_Trie_Recent.M R t_0 w = _ by kernel_rfl) h

noncomputable def culletref12_Same.body : Code := (Try.f24.body).getD .skip
def culletref12_Same.b1 (R : Ending → World → Prop) (k1 : (Sl × Sl × Int × Int × Unit) → World → Prop) (a_0 : Sl) (b_1 : Sl) (t12 : Int) (t13 : Int) (w : World) : Prop :=
  Cd (decide (t13 < t12)) (Pu Try.prog (Instr.indexAt 29 (.slice a_0.base a_0.len a_0.cap) (.int .i64 t13)) (.one (.at .addr)) (fun (x1 : Addr) w2 =>
  RdS Try.prog (Same w.drew) (Instr.loadAt 3 (.pointer (some x1))) (.one (.at (.int .i64))) (fun (x3 : Int) w4 =>
  Pu Try.prog (Instr.indexAt 29 (.slice b_1.base b_1.len b_1.cap) (.int .i64 t13)) (.one (.at .addr)) (fun (x5 : Addr) w6 =>
  RdS Try.prog (Same w.drew) (Instr.loadAt 3 (.pointer (some x5))) (.one (.at (.int .i64))) (fun (x7 : Int) w8 =>
  Cd (x3 != x7) (R (.returned (.bool false)) w8) (k1 (a_0, b_1, t12, (IntKind.wrap .i64 (t13 + 1)), ()) w8)) w6) w4) w2) w.drew) (R (.returned (.bool true)) w)
def culletref12_Same.l1 (R : Ending → World → Prop) : (Sl × Sl × Int × Int × Unit) → World → Prop := loopW (fun k1 s w => culletref12_Same.b1 R k1 s.1 s.2.1 s.2.2.1 s.2.2.2.1 w)
def culletref12_Same.M (R : Ending → World → Prop) (a_0 : Sl) (b_1 : Sl) (w : World) : Prop :=
  Cd (((a_0.len : Nat) : Int) != ((b_1.len : Nat) : Int)) (R (.returned (.bool false)) w) (culletref12_Same.l1 R (a_0, b_1, ((a_0.len : Nat) : Int), 0, ()) w)
noncomputable def culletref12_Same.ann (R : Ending → World → Prop) : Ann :=
  .seq (.reg (.op 0 .now (.done))) (.seq (.seq (.reg (.op 0 .now (.op 1 .now (.op 2 .now (.op 3 .now (.op 4 .now (.done))))))) (.cond (.seq (.reg (.op 0 .now (.done))) (.leaf)) (.leaf))) (.seq (.seq (.reg (.op 0 .now (.op 1 .now (.op 2 .now (.done))))) (.block (.loop [(0, .at .sl), (1, .at .sl), (12, .at (.int .i64)), (13, .at (.int .i64))] (fun k1 s w => culletref12_Same.b1 R k1 s.1 s.2.1 s.2.2.1 s.2.2.2.1 w) (fun k1 => .seq (.reg (.op 0 .now (.done))) (.seq (.cond (.leaf) (.leaf)) (.seq (.block (.seq (.reg (.op 0 .now (.op 1 .now (.done)))) (.seq (.regQ (.op 0 .now (.op 1 .now (.op 2 (.pu (.one (.at .addr))) (.op 3 (.rd (.one (.at (.int .i64)))) (.op 4 .now (.op 5 .now (.op 6 (.pu (.one (.at .addr))) (.op 7 (.rd (.one (.at (.int .i64)))) (.op 8 .now (.done))))))))))) (.cond (.seq (.reg (.op 0 .now (.done))) (.leaf)) (.leaf))))) (.reg (.op 0 .now (.op 1 .now (.done)))))))))) (.seq (.reg (.op 0 .now (.done))) (.leaf))))
theorem culletref12_Same.run (R : Ending → World → Prop) (a_0 : Sl) (b_1 : Sl) (w : World) (h : culletref12_Same.M R a_0 b_1 w) : Calls Try.prog 24 #[(.slice a_0.base a_0.len a_0.cap), (.slice b_1.base b_1.len b_1.cap)] w R := by
  refine calls_of_lift mix_eq Try.func24 (c := culletref12_Same.body) (by kernel_rfl) [.at .bool] (culletref12_Same.ann R) 26 Try.ntmps24 [.tmp 4] (by kernel_rfl) (Nat.le_of_ble_eq_true (by kernel_rfl)) ?_ ?_
  · exact ⟨trivial, ⟨⟨trivial, ⟨⟨trivial, trivial⟩, trivial⟩⟩, ⟨⟨trivial, (fun k1 => ⟨fun s w h => Eq.mp (by kernel_rfl) h, ⟨trivial, ⟨⟨trivial, trivial⟩, ⟨⟨trivial, ⟨(show Region.noSelect _ = true by kernel_rfl), ⟨⟨trivial, trivial⟩, trivial⟩⟩⟩, trivial⟩⟩⟩⟩)⟩, ⟨trivial, trivial⟩⟩⟩⟩
  · exact Eq.mp (show culletref12_Same.M R a_0 b_1 w = _ by kernel_rfl) h

noncomputable def culletlaw12_sameKeys.body : Code := (Try.f25.body).getD .skip
def culletlaw12_sameKeys.b1 (R : Ending → World → Prop) (k1 : (Sl × Sl × Int × Int × Unit) → World → Prop) (a_0 : Sl) (b_1 : Sl) (t12 : Int) (t13 : Int) (w : World) : Prop :=
  Cd (decide (t13 < t12)) (Held w.drew (fun S1 => Pu Try.prog (Instr.indexAt 45 (.slice a_0.base a_0.len a_0.cap) (.int .i64 t13)) (.one (.at .addr)) (fun (x2 : Addr) w3 =>
  RdS Try.prog S1 (Instr.loadAt 29 (.pointer (some x2))) (.one (.at .sl)) (fun (x4 : Sl) w5 =>
  Pu Try.prog (Instr.indexAt 45 (.slice b_1.base b_1.len b_1.cap) (.int .i64 t13)) (.one (.at .addr)) (fun (x6 : Addr) w7 =>
  RdS Try.prog S1 (Instr.loadAt 29 (.pointer (some x6))) (.one (.at .sl)) (fun (x8 : Sl) w9 =>
  Cl Try.prog 24 #[(.slice x4.base x4.len x4.cap), (.slice x8.base x8.len x8.cap)] (.one (.at .bool)) (fun (x10 : Bool) w11 =>
  S1 w11 ∧ (Cd (!x10) (R (.returned (.bool false)) w11) (k1 (a_0, b_1, t12, (IntKind.wrap .i64 (t13 + 1)), ()) w11))) w9) w7) w5) w3) w.drew)) (R (.returned (.bool true)) w)
def culletlaw12_sameKeys.l1 (R : Ending → World → Prop) : (Sl × Sl × Int × Int × Unit) → World → Prop := loopW (fun k1 s w => culletlaw12_sameKeys.b1 R k1 s.1 s.2.1 s.2.2.1 s.2.2.2.1 w)
def culletlaw12_sameKeys.M (R : Ending → World → Prop) (a_0 : Sl) (b_1 : Sl) (w : World) : Prop :=
  Cd (((a_0.len : Nat) : Int) != ((b_1.len : Nat) : Int)) (R (.returned (.bool false)) w) (culletlaw12_sameKeys.l1 R (a_0, b_1, ((a_0.len : Nat) : Int), 0, ()) w)
noncomputable def culletlaw12_sameKeys.ann (R : Ending → World → Prop) : Ann :=
  .seq (.reg (.op 0 .now (.done))) (.seq (.seq (.reg (.op 0 .now (.op 1 .now (.op 2 .now (.op 3 .now (.op 4 .now (.done))))))) (.cond (.seq (.reg (.op 0 .now (.done))) (.leaf)) (.leaf))) (.seq (.seq (.reg (.op 0 .now (.op 1 .now (.op 2 .now (.done))))) (.block (.loop [(0, .at .sl), (1, .at .sl), (12, .at (.int .i64)), (13, .at (.int .i64))] (fun k1 s w => culletlaw12_sameKeys.b1 R k1 s.1 s.2.1 s.2.2.1 s.2.2.2.1 w) (fun k1 => .seq (.reg (.op 0 .now (.done))) (.seq (.cond (.leaf) (.leaf)) (.seq (.block (.seq (.reg (.op 0 .now (.op 1 .now (.done)))) (.seq (.regD (.op 0 .now (.op 1 .now (.op 2 (.pu (.one (.at .addr))) (.op 3 (.rd (.one (.at .sl))) (.op 4 .now (.op 5 .now (.op 6 (.pu (.one (.at .addr))) (.op 7 (.rd (.one (.at .sl))) (.op 8 (.cl (.one (.at .bool))) (.op 9 .now (.done)))))))))))) (.cond (.seq (.reg (.op 0 .now (.done))) (.leaf)) (.leaf))))) (.reg (.op 0 .now (.op 1 .now (.done)))))))))) (.seq (.reg (.op 0 .now (.done))) (.leaf))))
theorem culletlaw12_sameKeys.run (R : Ending → World → Prop) (a_0 : Sl) (b_1 : Sl) (w : World) (h : culletlaw12_sameKeys.M R a_0 b_1 w) : Calls Try.prog 25 #[(.slice a_0.base a_0.len a_0.cap), (.slice b_1.base b_1.len b_1.cap)] w R := by
  refine calls_of_lift mix_eq Try.func25 (c := culletlaw12_sameKeys.body) (by kernel_rfl) [.at .bool] (culletlaw12_sameKeys.ann R) 27 Try.ntmps25 [.tmp 4] (by kernel_rfl) (Nat.le_of_ble_eq_true (by kernel_rfl)) ?_ ?_
  · exact ⟨trivial, ⟨⟨trivial, ⟨⟨trivial, trivial⟩, trivial⟩⟩, ⟨⟨trivial, (fun k1 => ⟨fun s w h => Eq.mp (by kernel_rfl) h, ⟨trivial, ⟨⟨trivial, trivial⟩, ⟨⟨trivial, ⟨(show Region.noSelect _ = true by kernel_rfl), ⟨⟨trivial, trivial⟩, trivial⟩⟩⟩, trivial⟩⟩⟩⟩)⟩, ⟨trivial, trivial⟩⟩⟩⟩
  · exact Eq.mp (show culletlaw12_sameKeys.M R a_0 b_1 w = _ by kernel_rfl) h

noncomputable def culletlaw12_filled.body : Code := (Try.f26.body).getD .skip
def culletlaw12_filled.b2 (R : Ending → World → Prop) (k1 : (Sl × Int × Int × Int × Unit) → World → Prop) (k2 : (Sl × Int × Int × Int × Int × Int × Int × Unit) → World → Prop) (v_0 : Sl) (x_1 : Int) (i_4 : Int) (t7 : Int) (t8 : Int) (t15 : Int) (t16 : Int) (w : World) : Prop :=
  Cd (decide (t16 < t15)) (Pu Try.prog (Instr.indexAt 30 (.slice v_0.base v_0.len v_0.cap) (.int .i64 i_4)) (.one (.at .addr)) (fun (x5 : Addr) w6 =>
  Rd Try.prog (Instr.loadAt 52 (.pointer (some x5))) (.one (.at .sl)) (fun (x7 : Sl) w8 =>
  Pu Try.prog (Instr.indexAt 52 (.slice x7.base x7.len x7.cap) (.int .i64 t16)) (.one (.at .addr)) (fun (x9 : Addr) w10 =>
  Wu Try.prog (Instr.storeAt 5 (.pointer (some x9)) (.int .u8 (IntKind.wrap .u8 (x_1 + (IntKind.wrap .u8 i_4))))) (fun w11 =>
  k2 (v_0, x_1, i_4, t7, t8, t15, (IntKind.wrap .i64 (t16 + 1)), ()) w11) w10) w8) w6) w) (k1 (v_0, x_1, t7, (IntKind.wrap .i64 (t8 + 1)), ()) w)
def culletlaw12_filled.l2 (R : Ending → World → Prop) (k1 : (Sl × Int × Int × Int × Unit) → World → Prop) : (Sl × Int × Int × Int × Int × Int × Int × Unit) → World → Prop := loopW (fun k2 s w => culletlaw12_filled.b2 R k1 k2 s.1 s.2.1 s.2.2.1 s.2.2.2.1 s.2.2.2.2.1 s.2.2.2.2.2.1 s.2.2.2.2.2.2.1 w)
def culletlaw12_filled.b1 (R : Ending → World → Prop) (k1 : (Sl × Int × Int × Int × Unit) → World → Prop) (v_0 : Sl) (x_1 : Int) (t7 : Int) (t8 : Int) (w : World) : Prop :=
  Cd (decide (t8 < t7)) (Pu Try.prog (Instr.indexAt 30 (.slice v_0.base v_0.len v_0.cap) (.int .i64 t8)) (.one (.at .addr)) (fun (x1 : Addr) w2 =>
  Rd Try.prog (Instr.loadAt 52 (.pointer (some x1))) (.one (.at .sl)) (fun (x3 : Sl) w4 =>
  culletlaw12_filled.l2 R k1 (v_0, x_1, t8, t7, t8, ((x3.len : Nat) : Int), 0, ()) w4) w2) w) (R (.returned (.tuple #[])) w)
def culletlaw12_filled.l1 (R : Ending → World → Prop) : (Sl × Int × Int × Int × Unit) → World → Prop := loopW (fun k1 s w => culletlaw12_filled.b1 R k1 s.1 s.2.1 s.2.2.1 s.2.2.2.1 w)
def culletlaw12_filled.M (R : Ending → World → Prop) (v_0 : Sl) (x_1 : Int) (w : World) : Prop :=
  culletlaw12_filled.l1 R (v_0, x_1, ((v_0.len : Nat) : Int), 0, ()) w
noncomputable def culletlaw12_filled.ann (R : Ending → World → Prop) : Ann :=
  .seq (.reg (.op 0 .now (.op 1 .now (.op 2 .now (.done))))) (.block (.loop [(0, .at .sl), (1, .at (.int .u8)), (7, .at (.int .i64)), (8, .at (.int .i64))] (fun k1 s w => culletlaw12_filled.b1 R k1 s.1 s.2.1 s.2.2.1 s.2.2.2.1 w) (fun k1 => .seq (.reg (.op 0 .now (.done))) (.seq (.cond (.leaf) (.leaf)) (.seq (.block (.seq (.reg (.op 0 .now (.op 1 .now (.done)))) (.seq (.reg (.op 0 .now (.op 1 .now (.op 2 (.pu (.one (.at .addr))) (.op 3 (.rd (.one (.at .sl))) (.op 4 .now (.op 5 .now (.done)))))))) (.block (.loop [(0, .at .sl), (1, .at (.int .u8)), (4, .at (.int .i64)), (7, .at (.int .i64)), (8, .at (.int .i64)), (15, .at (.int .i64)), (16, .at (.int .i64))] (fun k2 s w => culletlaw12_filled.b2 R k1 k2 s.1 s.2.1 s.2.2.1 s.2.2.2.1 s.2.2.2.2.1 s.2.2.2.2.2.1 s.2.2.2.2.2.2.1 w) (fun k2 => .seq (.reg (.op 0 .now (.done))) (.seq (.cond (.leaf) (.leaf)) (.seq (.block (.seq (.reg (.op 0 .now (.op 1 .now (.done)))) (.reg (.op 0 .now (.op 1 .now (.op 2 (.pu (.one (.at .addr))) (.op 3 (.rd (.one (.at .sl))) (.op 4 .now (.op 5 .now (.op 6 .now (.op 7 .now (.op 8 .now (.op 9 (.pu (.one (.at .addr))) (.op 10 .wu (.done))))))))))))))) (.reg (.op 0 .now (.op 1 .now (.done)))))))))))) (.reg (.op 0 .now (.op 1 .now (.done)))))))))
theorem culletlaw12_filled.run (R : Ending → World → Prop) (v_0 : Sl) (x_1 : Int) (w : World) (h : culletlaw12_filled.M R v_0 x_1 w) : Calls Try.prog 26 #[(.slice v_0.base v_0.len v_0.cap), (.int .u8 x_1)] w R := by
  refine calls_of_lift mix_eq Try.func26 (c := culletlaw12_filled.body) (by kernel_rfl) [] (culletlaw12_filled.ann R) 31 Try.ntmps26 [] (by kernel_rfl) (Nat.le_of_ble_eq_true (by kernel_rfl)) ?_ ?_
  · exact ⟨trivial, (fun k1 => ⟨fun s w h => Eq.mp (by kernel_rfl) h, ⟨trivial, ⟨⟨trivial, trivial⟩, ⟨⟨trivial, ⟨trivial, (fun k2 => ⟨fun s w h => Eq.mp (by kernel_rfl) h, ⟨trivial, ⟨⟨trivial, trivial⟩, ⟨⟨trivial, trivial⟩, trivial⟩⟩⟩⟩)⟩⟩, trivial⟩⟩⟩⟩)⟩
  · exact Eq.mp (show culletlaw12_filled.M R v_0 x_1 w = _ by kernel_rfl) h

noncomputable def culletlaw12_done.body : Code := (Try.f28.body).getD .skip
def culletlaw12_done.M (R : Ending → World → Prop) (t_0 : (Option Addr)) (o_1 : (Int × Int × Sl × Sl × Unit)) (w : World) : Prop :=
  Wr Try.prog (Instr.box 32 (.agg #[(.int .i64 o_1.1), (.int .i64 o_1.2.1), (.slice o_1.2.2.1.base o_1.2.2.1.len o_1.2.2.1.cap), (.slice o_1.2.2.2.1.base o_1.2.2.2.1.len o_1.2.2.2.1.cap)])) (.one (.at .addr)) (fun (x1 : Addr) w2 =>
  Rd Try.prog (Instr.loadAt 29 (.pointer (some (Addr.add x1 2)))) (.one (.at .sl)) (fun (x3 : Sl) w4 =>
  Cl Try.prog 16 #[(.slice x3.base x3.len x3.cap)] (.one (.at .sl)) (fun (x5 : Sl) w6 =>
  Rd Try.prog (Instr.loadAt 3 (.pointer (some x1))) (.one (.at (.int .i64))) (fun (x7 : Int) w8 =>
  Cd (x7 == 1) (Rd Try.prog (Instr.loadAt 30 (.pointer (some (Addr.add x1 3)))) (.one (.at .sl)) (fun (x9 : Sl) w10 =>
  Cl Try.prog 17 #[(.slice x9.base x9.len x9.cap)] (.one (.at .sl)) (fun (x11 : Sl) w12 =>
  Cl Try.prog 15 #[(.pointer t_0), (.slice x5.base x5.len x5.cap), (.slice x11.base x11.len x11.cap)] (.one (.at (.int .i64))) (fun (x13 : Int) w14 =>
  R (.returned (.tuple #[])) w14) w12) w10) w8) (Cd (x7 == 2) (Cl Try.prog 19 #[(.pointer t_0), (.slice x5.base x5.len x5.cap)] (.tup [.at .sl, .at .bool]) (fun x15 w16 =>
  R (.returned (.tuple #[])) w16) w8) (Cd (x7 == 4) (Cl Try.prog 22 #[(.pointer t_0), (.slice x5.base x5.len x5.cap)] (.one (.at .bool)) (fun (x17 : Bool) w18 =>
  R (.returned (.tuple #[])) w18) w8) (R (.returned (.tuple #[])) w8)))) w6) w4) w2) w
noncomputable def culletlaw12_done.ann (R : Ending → World → Prop) : Ann :=
  .seq (.reg (.op 0 (.wr (.one (.at .addr))) (.done))) (.seq (.reg (.op 0 .now (.op 1 (.rd (.one (.at .sl))) (.op 2 (.cl (.one (.at .sl))) (.op 3 .now (.done)))))) (.seq (.reg (.op 0 .now (.op 1 (.rd (.one (.at (.int .i64)))) (.done)))) (.block (.seq (.reg (.op 0 .now (.op 1 .now (.done)))) (.cond (.reg (.op 0 .now (.op 1 .now (.op 2 .now (.op 3 (.rd (.one (.at .sl))) (.op 4 (.cl (.one (.at .sl))) (.op 5 (.cl (.one (.at (.int .i64)))) (.done)))))))) (.seq (.reg (.op 0 .now (.op 1 .now (.done)))) (.cond (.reg (.op 0 .now (.op 1 .now (.op 2 (.cl (.tup [.at .sl, .at .bool])) (.done))))) (.seq (.reg (.op 0 .now (.op 1 .now (.done)))) (.cond (.reg (.op 0 .now (.op 1 .now (.op 2 (.cl (.one (.at .bool))) (.done))))) (.leaf))))))))))
theorem culletlaw12_done.run (R : Ending → World → Prop) (t_0 : (Option Addr)) (o_1 : (Int × Int × Sl × Sl × Unit)) (w : World) (h : culletlaw12_done.M R t_0 o_1 w) : Calls Try.prog 28 #[(.pointer t_0), (.agg #[(.int .i64 o_1.1), (.int .i64 o_1.2.1), (.slice o_1.2.2.1.base o_1.2.2.1.len o_1.2.2.1.cap), (.slice o_1.2.2.2.1.base o_1.2.2.2.1.len o_1.2.2.2.1.cap)])] w R := by
  refine calls_of_lift mix_eq Try.func28 (c := culletlaw12_done.body) (by kernel_rfl) [] (culletlaw12_done.ann R) 28 Try.ntmps28 [] (by kernel_rfl) (Nat.le_of_ble_eq_true (by kernel_rfl)) ?_ ?_
  · exact ⟨trivial, ⟨trivial, ⟨trivial, ⟨trivial, ⟨trivial, ⟨trivial, ⟨trivial, ⟨trivial, ⟨trivial, trivial⟩⟩⟩⟩⟩⟩⟩⟩⟩
  · exact Eq.mp (show culletlaw12_done.M R t_0 o_1 w = _ by kernel_rfl) h

noncomputable def trie_Trie_Under.body : Code := (Try.f29.body).getD .skip
def trie_Trie_Under.M (R : Ending → World → Prop) (t_0 : (Option Addr)) (prefix_1 : Sl) (w : World) : Prop :=
  Cl Try.prog 51 #[(.pointer t_0), (.slice prefix_1.base prefix_1.len prefix_1.cap)] (.one (.at .ptr)) (fun (x1 : (Option Addr)) w2 =>
  Pu Try.prog (do eqGuard .eql 74 (.tmp 9) (.const (.pointer none)) (.pointer x1) (.pointer none); binOp .eql 74 (.pointer x1) (.pointer none)) (.one (.at .bool)) (fun (x3 : Bool) w4 =>
  Cd x3 (R (.returned (.slice none 0 0)) w4) (Cl Try.prog 52 #[(.slice prefix_1.base prefix_1.len prefix_1.cap)] (.one (.at .sl)) (fun (x5 : Sl) w6 =>
  Cl Try.prog 47 #[(.pointer x1), (.slice x5.base x5.len x5.cap), (.slice none 0 0)] (.one (.at .sl)) (fun (x7 : Sl) w8 =>
  Cl Try.prog 50 #[(.slice x7.base x7.len x7.cap)] (.one (.at .sl)) (fun (x9 : Sl) w10 =>
  R (.returned (.slice x9.base x9.len x9.cap)) w10) w8) w6) w4)) w2) w
noncomputable def trie_Trie_Under.ann (R : Ending → World → Prop) : Ann :=
  .seq (.reg (.op 0 .now (.done))) (.seq (.reg (.op 0 .now (.op 1 .now (.op 2 (.cl (.one (.at .ptr))) (.op 3 .now (.done)))))) (.seq (.seq (.reg (.op 0 .now (.op 1 (.pu (.one (.at .bool))) (.done)))) (.cond (.seq (.reg (.op 0 .now (.done))) (.leaf)) (.leaf))) (.seq (.reg (.op 0 .now (.op 1 .now (.op 2 (.cl (.one (.at .sl))) (.op 3 (.cl (.one (.at .sl))) (.op 4 (.cl (.one (.at .sl))) (.op 5 .now (.done)))))))) (.leaf))))
theorem trie_Trie_Under.run (R : Ending → World → Prop) (t_0 : (Option Addr)) (prefix_1 : Sl) (w : World) (h : trie_Trie_Under.M R t_0 prefix_1 w) : Calls Try.prog 29 #[(.pointer t_0), (.slice prefix_1.base prefix_1.len prefix_1.cap)] w R := by
  refine calls_of_lift mix_eq Try.func29 (c := trie_Trie_Under.body) (by kernel_rfl) [.at .sl] (trie_Trie_Under.ann R) 16 Try.ntmps29 [.tmp 4] (by kernel_rfl) (Nat.le_of_ble_eq_true (by kernel_rfl)) ?_ ?_
  · exact ⟨trivial, ⟨trivial, ⟨⟨trivial, ⟨⟨trivial, trivial⟩, trivial⟩⟩, ⟨trivial, trivial⟩⟩⟩⟩
  · exact Eq.mp (show trie_Trie_Under.M R t_0 prefix_1 w = _ by kernel_rfl) h

noncomputable def trie_Trie_Len.body : Code := (Try.f34.body).getD .skip
def trie_Trie_Len.M (R : Ending → World → Prop) (t_0 : (Option Addr)) (w : World) : Prop :=
  Pu Try.prog (do eqGuard .eql 23 (.tmp 3) (.const (.pointer none)) (.pointer t_0) (.pointer none); binOp .eql 23 (.pointer t_0) (.pointer none)) (.one (.at .bool)) (fun (x1 : Bool) w2 =>
  Cd x1 (R (.returned (.int .i64 0)) w2) (Pu Try.prog (nilCk t_0) (.one (.at .addr)) (fun (x3 : Addr) w4 =>
  Rd Try.prog (Instr.loadAt 3 (.pointer (some (Addr.add x3 2)))) (.one (.at (.int .i64))) (fun (x5 : Int) w6 =>
  R (.returned (.int .i64 x5)) w6) w4) w2)) w
noncomputable def trie_Trie_Len.ann (R : Ending → World → Prop) : Ann :=
  .seq (.reg (.op 0 .now (.done))) (.seq (.seq (.reg (.op 0 .now (.op 1 (.pu (.one (.at .bool))) (.done)))) (.cond (.seq (.reg (.op 0 .now (.done))) (.leaf)) (.leaf))) (.seq (.reg (.op 0 .now (.op 1 (.pu (.one (.at .addr))) (.op 2 .now (.op 3 (.rd (.one (.at (.int .i64)))) (.op 4 .now (.done))))))) (.leaf)))
theorem trie_Trie_Len.run (R : Ending → World → Prop) (t_0 : (Option Addr)) (w : World) (h : trie_Trie_Len.M R t_0 w) : Calls Try.prog 34 #[(.pointer t_0)] w R := by
  refine calls_of_lift mix_eq Try.func34 (c := trie_Trie_Len.body) (by kernel_rfl) [.at (.int .i64)] (trie_Trie_Len.ann R) 9 Try.ntmps34 [.tmp 2] (by kernel_rfl) (Nat.le_of_ble_eq_true (by kernel_rfl)) ?_ ?_
  · exact ⟨trivial, ⟨⟨trivial, ⟨⟨trivial, trivial⟩, trivial⟩⟩, ⟨trivial, trivial⟩⟩⟩
  · exact Eq.mp (show trie_Trie_Len.M R t_0 w = _ by kernel_rfl) h

noncomputable def trie_Trie_Nodes.body : Code := (Try.f35.body).getD .skip
def trie_Trie_Nodes.j1 (R : Ending → World → Prop)  (t_0 : (Option Addr)) (t11 : Bool) (w : World) : Prop :=
  Cd t11 (R (.returned (.int .i64 0)) w) (Pu Try.prog (nilCk t_0) (.one (.at .addr)) (fun (x1 : Addr) w2 =>
  Rd Try.prog (Instr.loadAt 74 (.pointer (some x1))) (.one (.at .ptr)) (fun (x3 : (Option Addr)) w4 =>
  Cl Try.prog 53 #[(.pointer x3)] (.one (.at (.int .i64))) (fun (x5 : Int) w6 =>
  R (.returned (.int .i64 x5)) w6) w4) w2) w)
def trie_Trie_Nodes.M (R : Ending → World → Prop) (t_0 : (Option Addr)) (w : World) : Prop :=
  Pu Try.prog (do eqGuard .eql 23 (.tmp 3) (.const (.pointer none)) (.pointer t_0) (.pointer none); binOp .eql 23 (.pointer t_0) (.pointer none)) (.one (.at .bool)) (fun (x7 : Bool) w8 =>
  Cd x7 (trie_Trie_Nodes.j1 R t_0 true w8) (Pu Try.prog (nilCk t_0) (.one (.at .addr)) (fun (x9 : Addr) w10 =>
  Rd Try.prog (Instr.loadAt 74 (.pointer (some x9))) (.one (.at .ptr)) (fun (x11 : (Option Addr)) w12 =>
  Pu Try.prog (do eqGuard .eql 74 (.tmp 9) (.const (.pointer none)) (.pointer x11) (.pointer none); binOp .eql 74 (.pointer x11) (.pointer none)) (.one (.at .bool)) (fun (x13 : Bool) w14 =>
  trie_Trie_Nodes.j1 R t_0 x13 w14) w12) w10) w8)) w
noncomputable def trie_Trie_Nodes.ann (R : Ending → World → Prop) : Ann :=
  .seq (.reg (.op 0 .now (.done))) (.seq (.join [(0, .at .ptr), (11, .at .bool)] (fun s w => trie_Trie_Nodes.j1 R s.1 s.2.1 w) (.reg (.op 0 .now (.op 1 (.pu (.one (.at .bool))) (.op 2 .now (.split 2 (.skip 3 (.skip 4 (.skip 5 (.skip 6 (.skip 7 (.op 8 .now (.done))))))) (.op 3 .now (.op 4 (.pu (.one (.at .addr))) (.op 5 .now (.op 6 (.rd (.one (.at .ptr))) (.op 7 (.pu (.one (.at .bool))) (.op 8 .now (.done)))))))))))) (.cond (.seq (.reg (.op 0 .now (.done))) (.leaf)) (.leaf))) (.seq (.reg (.op 0 .now (.op 1 (.pu (.one (.at .addr))) (.op 2 .now (.op 3 (.rd (.one (.at .ptr))) (.op 4 (.cl (.one (.at (.int .i64)))) (.op 5 .now (.done)))))))) (.leaf)))
theorem trie_Trie_Nodes.run (R : Ending → World → Prop) (t_0 : (Option Addr)) (w : World) (h : trie_Trie_Nodes.M R t_0 w) : Calls Try.prog 35 #[(.pointer t_0)] w R := by
  refine calls_of_lift mix_eq Try.func35 (c := trie_Trie_Nodes.body) (by kernel_rfl) [.at (.int .i64)] (trie_Trie_Nodes.ann R) 17 Try.ntmps35 [.tmp 2] (by kernel_rfl) (Nat.le_of_ble_eq_true (by kernel_rfl)) ?_ ?_
  · exact ⟨trivial, ⟨⟨fun s w h => Eq.mp (by kernel_rfl) h, trivial, ⟨⟨trivial, trivial⟩, trivial⟩⟩, ⟨trivial, trivial⟩⟩⟩
  · exact Eq.mp (show trie_Trie_Nodes.M R t_0 w = _ by kernel_rfl) h

noncomputable def trie_Trie_All.body : Code := (Try.f39.body).getD .skip
def trie_Trie_All.M (R : Ending → World → Prop) (t_0 : (Option Addr)) (w : World) : Prop :=
  Cl Try.prog 29 #[(.pointer t_0), (.slice none 0 0)] (.one (.at .sl)) (fun (x1 : Sl) w2 =>
  Wr Try.prog (Instr.alloc 45 true (.tuple #[])) (.one (.at .addr)) (fun (x3 : Addr) w4 =>
  Wu Try.prog (Instr.storeAt 45 (.pointer (some x3)) (.slice x1.base x1.len x1.cap)) (fun w5 =>
  R (.returned (.func (.func 65) #[] #[(.pointer (some x3))])) w5) w4) w2) w
noncomputable def trie_Trie_All.ann (R : Ending → World → Prop) : Ann :=
  .seq (.reg (.op 0 .now (.done))) (.seq (.reg (.op 0 .now (.op 1 (.cl (.one (.at .sl))) (.op 2 (.wr (.one (.at .addr))) (.op 3 .wu (.done)))))) (.seq (.reg (.op 0 .now (.op 1 .now (.done)))) (.leaf)))
theorem trie_Trie_All.run (R : Ending → World → Prop) (t_0 : (Option Addr)) (w : World) (h : trie_Trie_All.M R t_0 w) : Calls Try.prog 39 #[(.pointer t_0)] w R := by
  refine calls_of_lift mix_eq Try.func39 (c := trie_Trie_All.body) (by kernel_rfl) [.at .any] (trie_Trie_All.ann R) 7 Try.ntmps39 [.tmp 2] (by kernel_rfl) (Nat.le_of_ble_eq_true (by kernel_rfl)) ?_ ?_
  · exact ⟨trivial, ⟨trivial, ⟨trivial, trivial⟩⟩⟩
  · exact Eq.mp (show trie_Trie_All.M R t_0 w = _ by kernel_rfl) h

noncomputable def trie_fresh.body : Code := (Try.f40.body).getD .skip
def trie_fresh.M (R : Ending → World → Prop)  (w : World) : Prop :=
  Wr Try.prog (Instr.makeMap 79 none) (.one (.at .map)) (fun (x1 : (Option Nat)) w2 =>
  Wr Try.prog (Instr.box 81 (.agg #[(.map x1), (.bool false), (.slice none 0 0), (.int .i64 0)])) (.one (.at .addr)) (fun (x3 : Addr) w4 =>
  R (.returned (.pointer (some x3))) w4) w2) w
noncomputable def trie_fresh.ann (R : Ending → World → Prop) : Ann :=
  .seq (.reg (.op 0 .now (.done))) (.seq (.reg (.op 0 (.wr (.one (.at .map))) (.op 1 .now (.op 2 (.wr (.one (.at .addr))) (.op 3 .now (.done)))))) (.leaf))
theorem trie_fresh.run (R : Ending → World → Prop)  (w : World) (h : trie_fresh.M R  w) : Calls Try.prog 40 #[] w R := by
  refine calls_of_lift mix_eq Try.func40 (c := trie_fresh.body) (by kernel_rfl) [.at .ptr] (trie_fresh.ann R) 4 Try.ntmps40 [.tmp 0] (by kernel_rfl) (Nat.le_of_ble_eq_true (by kernel_rfl)) ?_ ?_
  · exact ⟨trivial, ⟨trivial, trivial⟩⟩
  · exact Eq.mp (show trie_fresh.M R  w = _ by kernel_rfl) h

noncomputable def trie_isKey.body : Code := (Try.f41.body).getD .skip
def trie_isKey.j1 (R : Ending → World → Prop)  (k1 : (Sl × Sl × Int × Int × Unit) → World → Prop) (key_0 : Sl) (t5 : Sl) (t6 : Int) (t7 : Int) (t30 : Bool) (w : World) : Prop :=
  Cd t30 (R (.returned (.bool false)) w) (k1 (key_0, t5, t6, (IntKind.wrap .i64 (t7 + 1)), ()) w)
def trie_isKey.b1 (R : Ending → World → Prop) (k1 : (Sl × Sl × Int × Int × Unit) → World → Prop) (key_0 : Sl) (t5 : Sl) (t6 : Int) (t7 : Int) (w : World) : Prop :=
  Cd (decide (t7 < t6)) (Pu Try.prog (Instr.indexAt 29 (.slice t5.base t5.len t5.cap) (.int .i64 t7)) (.one (.at .addr)) (fun (x1 : Addr) w2 =>
  Rd Try.prog (Instr.loadAt 3 (.pointer (some x1))) (.one (.at (.int .i64))) (fun (x3 : Int) w4 =>
  Cd (decide (x3 < 0)) (trie_isKey.j1 R k1 key_0 t5 t6 t7 true w4) (Cd (decide (x3 > 255)) (trie_isKey.j1 R k1 key_0 t5 t6 t7 true w4) (Cd (decide (t7 > 0)) (Pu Try.prog (Instr.indexAt 29 (.slice key_0.base key_0.len key_0.cap) (.int .i64 (IntKind.wrap .i64 (t7 - 1)))) (.one (.at .addr)) (fun (x5 : Addr) w6 =>
  Rd Try.prog (Instr.loadAt 3 (.pointer (some x5))) (.one (.at (.int .i64))) (fun (x7 : Int) w8 =>
  trie_isKey.j1 R k1 key_0 t5 t6 t7 (decide (x3 ≤ x7)) w8) w6) w4) (trie_isKey.j1 R k1 key_0 t5 t6 t7 false w4)))) w2) w) (R (.returned (.bool true)) w)
def trie_isKey.l1 (R : Ending → World → Prop) : (Sl × Sl × Int × Int × Unit) → World → Prop := loopW (fun k1 s w => trie_isKey.b1 R k1 s.1 s.2.1 s.2.2.1 s.2.2.2.1 w)
def trie_isKey.M (R : Ending → World → Prop) (key_0 : Sl) (w : World) : Prop :=
  trie_isKey.l1 R (key_0, key_0, ((key_0.len : Nat) : Int), 0, ()) w
noncomputable def trie_isKey.ann (R : Ending → World → Prop) : Ann :=
  .seq (.reg (.op 0 .now (.done))) (.seq (.seq (.reg (.op 0 .now (.op 1 .now (.op 2 .now (.done))))) (.block (.loop [(0, .at .sl), (5, .at .sl), (6, .at (.int .i64)), (7, .at (.int .i64))] (fun k1 s w => trie_isKey.b1 R k1 s.1 s.2.1 s.2.2.1 s.2.2.2.1 w) (fun k1 => .seq (.reg (.op 0 .now (.done))) (.seq (.cond (.leaf) (.leaf)) (.seq (.block (.seq (.reg (.op 0 .now (.op 1 (.pu (.one (.at .addr))) (.op 2 (.rd (.one (.at (.int .i64)))) (.op 3 .now (.op 4 .now (.done))))))) (.join [(0, .at .sl), (5, .at .sl), (6, .at (.int .i64)), (7, .at (.int .i64)), (30, .at .bool)] (fun s w => trie_isKey.j1 R k1 s.1 s.2.1 s.2.2.1 s.2.2.2.1 s.2.2.2.2.1 w) (.reg (.op 0 .now (.op 1 .now (.op 2 .now (.split 2 (.skip 3 (.skip 4 (.op 5 .now (.op 6 .now (.skip 7 (.skip 8 (.skip 9 (.skip 10 (.skip 11 (.skip 12 (.skip 13 (.skip 14 (.skip 15 (.skip 16 (.skip 17 (.op 18 .now (.done))))))))))))))))) (.op 3 .now (.op 4 .now (.op 5 .now (.op 6 .now (.split 6 (.skip 7 (.skip 8 (.skip 9 (.skip 10 (.skip 11 (.skip 12 (.skip 13 (.skip 14 (.skip 15 (.skip 16 (.skip 17 (.op 18 .now (.done))))))))))))) (.op 7 .now (.op 8 .now (.op 9 .now (.split 9 (.op 10 .now (.op 11 .now (.op 12 .now (.op 13 .now (.op 14 (.pu (.one (.at .addr))) (.op 15 (.rd (.one (.at (.int .i64)))) (.op 16 .now (.op 17 .now (.op 18 .now (.done)))))))))) (.skip 10 (.skip 11 (.skip 12 (.skip 13 (.skip 14 (.skip 15 (.skip 16 (.op 17 .now (.op 18 .now (.done)))))))))))))))))))))))) (.cond (.seq (.reg (.op 0 .now (.done))) (.leaf)) (.leaf))))) (.reg (.op 0 .now (.op 1 .now (.done)))))))))) (.seq (.reg (.op 0 .now (.done))) (.leaf)))
theorem trie_isKey.run (R : Ending → World → Prop) (key_0 : Sl) (w : World) (h : trie_isKey.M R key_0 w) : Calls Try.prog 41 #[(.slice key_0.base key_0.len key_0.cap)] w R := by
  refine calls_of_lift mix_eq Try.func41 (c := trie_isKey.body) (by kernel_rfl) [.at .bool] (trie_isKey.ann R) 32 Try.ntmps41 [.tmp 2] (by kernel_rfl) (Nat.le_of_ble_eq_true (by kernel_rfl)) ?_ ?_
  · exact ⟨trivial, ⟨⟨trivial, (fun k1 => ⟨fun s w h => Eq.mp (by kernel_rfl) h, ⟨trivial, ⟨⟨trivial, trivial⟩, ⟨⟨trivial, ⟨fun s w h => Eq.mp (by kernel_rfl) h, trivial, ⟨⟨trivial, trivial⟩, trivial⟩⟩⟩, trivial⟩⟩⟩⟩)⟩, ⟨trivial, trivial⟩⟩⟩
  · exact Eq.mp (show trie_isKey.M R key_0 w = _ by kernel_rfl) h

noncomputable def trie_Trie_holder.body : Code := (Try.f42.body).getD .skip
def trie_Trie_holder.j1 (R : Ending → World → Prop)  (n_5 : (Option Addr)) (t16 : Bool) (w : World) : Prop :=
  Cd t16 (R (.returned (.pointer n_5)) w) (R (.returned (.pointer none)) w)
def trie_Trie_holder.M (R : Ending → World → Prop) (t_0 : (Option Addr)) (key_1 : Sl) (w : World) : Prop :=
  Cl Try.prog 51 #[(.pointer t_0), (.slice key_1.base key_1.len key_1.cap)] (.one (.at .ptr)) (fun (x1 : (Option Addr)) w2 =>
  Pu Try.prog (do eqGuard .neq 74 (.tmp 9) (.const (.pointer none)) (.pointer x1) (.pointer none); binOp .neq 74 (.pointer x1) (.pointer none)) (.one (.at .bool)) (fun (x3 : Bool) w4 =>
  Cd x3 (Pu Try.prog (nilCk x1) (.one (.at .addr)) (fun (x5 : Addr) w6 =>
  Rd Try.prog (Instr.loadAt 4 (.pointer (some (Addr.add x5 1)))) (.one (.at .bool)) (fun (x7 : Bool) w8 =>
  trie_Trie_holder.j1 R x1 x7 w8) w6) w4) (trie_Trie_holder.j1 R x1 false w4)) w2) w
noncomputable def trie_Trie_holder.ann (R : Ending → World → Prop) : Ann :=
  .seq (.reg (.op 0 .now (.done))) (.seq (.seq (.reg (.op 0 .now (.op 1 .now (.op 2 (.cl (.one (.at .ptr))) (.op 3 .now (.done)))))) (.join [(5, .at .ptr), (16, .at .bool)] (fun s w => trie_Trie_holder.j1 R s.1 s.2.1 w) (.reg (.op 0 .now (.op 1 (.pu (.one (.at .bool))) (.op 2 .now (.split 2 (.op 3 .now (.op 4 (.pu (.one (.at .addr))) (.op 5 .now (.op 6 (.rd (.one (.at .bool))) (.op 7 .now (.done)))))) (.skip 3 (.skip 4 (.skip 5 (.skip 6 (.op 7 .now (.done))))))))))) (.cond (.seq (.reg (.op 0 .now (.op 1 .now (.done)))) (.leaf)) (.leaf)))) (.seq (.reg (.op 0 .now (.done))) (.leaf)))
theorem trie_Trie_holder.run (R : Ending → World → Prop) (t_0 : (Option Addr)) (key_1 : Sl) (w : World) (h : trie_Trie_holder.M R t_0 key_1 w) : Calls Try.prog 42 #[(.pointer t_0), (.slice key_1.base key_1.len key_1.cap)] w R := by
  refine calls_of_lift mix_eq Try.func42 (c := trie_Trie_holder.body) (by kernel_rfl) [.at .ptr] (trie_Trie_holder.ann R) 18 Try.ntmps42 [.tmp 4] (by kernel_rfl) (Nat.le_of_ble_eq_true (by kernel_rfl)) ?_ ?_
  · exact ⟨trivial, ⟨⟨trivial, ⟨fun s w h => Eq.mp (by kernel_rfl) h, trivial, ⟨⟨trivial, trivial⟩, trivial⟩⟩⟩, ⟨trivial, trivial⟩⟩⟩
  · exact Eq.mp (show trie_Trie_holder.M R t_0 key_1 w = _ by kernel_rfl) h

noncomputable def trie_copied.body : Code := (Try.f43.body).getD .skip
def trie_copied.b1 (R : Ending → World → Prop) (k1 : (Sl × Sl × Int × Int × Unit) → World → Prop) (out_3 : Sl) (t9 : Sl) (t10 : Int) (t11 : Int) (w : World) : Prop :=
  Cd (decide (t11 < t10)) (Pu Try.prog (Instr.indexAt 30 (.slice t9.base t9.len t9.cap) (.int .i64 t11)) (.one (.at .addr)) (fun (x3 : Addr) w4 =>
  Rd Try.prog (Instr.loadAt 52 (.pointer (some x3))) (.one (.at .sl)) (fun (x5 : Sl) w6 =>
  Wr Try.prog (Builtin.append_ #[52, 52] 52 #[(.slice none 0 0), (.slice x5.base x5.len x5.cap)]) (.one (.at .sl)) (fun (x7 : Sl) w8 =>
  Pu Try.prog (Instr.indexAt 30 (.slice out_3.base out_3.len out_3.cap) (.int .i64 t11)) (.one (.at .addr)) (fun (x9 : Addr) w10 =>
  Wu Try.prog (Instr.storeAt 52 (.pointer (some x9)) (.slice x7.base x7.len x7.cap)) (fun w11 =>
  k1 (out_3, t9, t10, (IntKind.wrap .i64 (t11 + 1)), ()) w11) w10) w8) w6) w4) w) (R (.returned (.slice out_3.base out_3.len out_3.cap)) w)
def trie_copied.l1 (R : Ending → World → Prop) : (Sl × Sl × Int × Int × Unit) → World → Prop := loopW (fun k1 s w => trie_copied.b1 R k1 s.1 s.2.1 s.2.2.1 s.2.2.2.1 w)
def trie_copied.M (R : Ending → World → Prop) (value_0 : Sl) (w : World) : Prop :=
  Wr Try.prog (Instr.makeSlice 30 (.int .i64 ((value_0.len : Nat) : Int)) (.int .i64 ((value_0.len : Nat) : Int))) (.one (.at .sl)) (fun (x1 : Sl) w2 =>
  trie_copied.l1 R (x1, value_0, ((value_0.len : Nat) : Int), 0, ()) w2) w
noncomputable def trie_copied.ann (R : Ending → World → Prop) : Ann :=
  .seq (.reg (.op 0 .now (.done))) (.seq (.reg (.op 0 .now (.op 1 .now (.op 2 (.wr (.one (.at .sl))) (.op 3 .now (.done)))))) (.seq (.seq (.reg (.op 0 .now (.op 1 .now (.op 2 .now (.done))))) (.block (.loop [(3, .at .sl), (9, .at .sl), (10, .at (.int .i64)), (11, .at (.int .i64))] (fun k1 s w => trie_copied.b1 R k1 s.1 s.2.1 s.2.2.1 s.2.2.2.1 w) (fun k1 => .seq (.reg (.op 0 .now (.done))) (.seq (.cond (.leaf) (.leaf)) (.seq (.block (.seq (.reg (.op 0 .now (.op 1 (.pu (.one (.at .addr))) (.op 2 (.rd (.one (.at .sl))) (.op 3 .now (.op 4 .now (.done))))))) (.reg (.op 0 .now (.op 1 .now (.op 2 .now (.op 3 (.wr (.one (.at .sl))) (.op 4 (.pu (.one (.at .addr))) (.op 5 .wu (.done)))))))))) (.reg (.op 0 .now (.op 1 .now (.done)))))))))) (.seq (.reg (.op 0 .now (.op 1 .now (.done)))) (.leaf))))
theorem trie_copied.run (R : Ending → World → Prop) (value_0 : Sl) (w : World) (h : trie_copied.M R value_0 w) : Calls Try.prog 43 #[(.slice value_0.base value_0.len value_0.cap)] w R := by
  refine calls_of_lift mix_eq Try.func43 (c := trie_copied.body) (by kernel_rfl) [.at .sl] (trie_copied.ann R) 23 Try.ntmps43 [.tmp 2] (by kernel_rfl) (Nat.le_of_ble_eq_true (by kernel_rfl)) ?_ ?_
  · exact ⟨trivial, ⟨trivial, ⟨⟨trivial, (fun k1 => ⟨fun s w h => Eq.mp (by kernel_rfl) h, ⟨trivial, ⟨⟨trivial, trivial⟩, ⟨⟨trivial, trivial⟩, trivial⟩⟩⟩⟩)⟩, ⟨trivial, trivial⟩⟩⟩⟩
  · exact Eq.mp (show trie_copied.M R value_0 w = _ by kernel_rfl) h

noncomputable def trie_Trie_use.body : Code := (Try.f44.body).getD .skip
def trie_Trie_use.M (R : Ending → World → Prop) (t_0 : (Option Addr)) (n_1 : (Option Addr)) (w : World) : Prop :=
  Pu Try.prog (nilCk t_0) (.one (.at .addr)) (fun (x1 : Addr) w2 =>
  Rd Try.prog (Instr.loadAt 3 (.pointer (some (Addr.add x1 3)))) (.one (.at (.int .i64))) (fun (x3 : Int) w4 =>
  Pu Try.prog (nilCk t_0) (.one (.at .addr)) (fun (x5 : Addr) w6 =>
  Wu Try.prog (Instr.storeAt 3 (.pointer (some (Addr.add x5 3))) (.int .i64 (IntKind.wrap .i64 (x3 + 1)))) (fun w7 =>
  Pu Try.prog (nilCk t_0) (.one (.at .addr)) (fun (x8 : Addr) w9 =>
  Rd Try.prog (Instr.loadAt 3 (.pointer (some (Addr.add x8 3)))) (.one (.at (.int .i64))) (fun (x10 : Int) w11 =>
  Pu Try.prog (nilCk n_1) (.one (.at .addr)) (fun (x12 : Addr) w13 =>
  Wu Try.prog (Instr.storeAt 3 (.pointer (some (Addr.add x12 3))) (.int .i64 x10)) (fun w14 =>
  R (.returned (.tuple #[])) w14) w13) w11) w9) w7) w6) w4) w2) w
noncomputable def trie_Trie_use.ann (R : Ending → World → Prop) : Ann :=
  .seq (.reg (.op 0 .now (.op 1 (.pu (.one (.at .addr))) (.op 2 .now (.op 3 (.rd (.one (.at (.int .i64)))) (.op 4 .now (.op 5 (.pu (.one (.at .addr))) (.op 6 .now (.op 7 .wu (.done)))))))))) (.reg (.op 0 .now (.op 1 .now (.op 2 (.pu (.one (.at .addr))) (.op 3 .now (.op 4 (.rd (.one (.at (.int .i64)))) (.op 5 (.pu (.one (.at .addr))) (.op 6 .now (.op 7 .wu (.done))))))))))
theorem trie_Trie_use.run (R : Ending → World → Prop) (t_0 : (Option Addr)) (n_1 : (Option Addr)) (w : World) (h : trie_Trie_use.M R t_0 n_1 w) : Calls Try.prog 44 #[(.pointer t_0), (.pointer n_1)] w R := by
  refine calls_of_lift mix_eq Try.func44 (c := trie_Trie_use.body) (by kernel_rfl) [] (trie_Trie_use.ann R) 18 Try.ntmps44 [] (by kernel_rfl) (Nat.le_of_ble_eq_true (by kernel_rfl)) ?_ ?_
  · exact ⟨trivial, trivial⟩
  · exact Eq.mp (show trie_Trie_use.M R t_0 n_1 w = _ by kernel_rfl) h

noncomputable def culletlaw12_sameBytes.body : Code := (Try.f45.body).getD .skip
def culletlaw12_sameBytes.b1 (R : Ending → World → Prop) (k1 : (Sl × Sl × Int × Int × Unit) → World → Prop) (a_0 : Sl) (b_1 : Sl) (t12 : Int) (t13 : Int) (w : World) : Prop :=
  Cd (decide (t13 < t12)) (Pu Try.prog (Instr.indexAt 52 (.slice a_0.base a_0.len a_0.cap) (.int .i64 t13)) (.one (.at .addr)) (fun (x1 : Addr) w2 =>
  RdS Try.prog (Same w.drew) (Instr.loadAt 5 (.pointer (some x1))) (.one (.at (.int .u8))) (fun (x3 : Int) w4 =>
  Pu Try.prog (Instr.indexAt 52 (.slice b_1.base b_1.len b_1.cap) (.int .i64 t13)) (.one (.at .addr)) (fun (x5 : Addr) w6 =>
  RdS Try.prog (Same w.drew) (Instr.loadAt 5 (.pointer (some x5))) (.one (.at (.int .u8))) (fun (x7 : Int) w8 =>
  Cd (x3 != x7) (R (.returned (.bool false)) w8) (k1 (a_0, b_1, t12, (IntKind.wrap .i64 (t13 + 1)), ()) w8)) w6) w4) w2) w.drew) (R (.returned (.bool true)) w)
def culletlaw12_sameBytes.l1 (R : Ending → World → Prop) : (Sl × Sl × Int × Int × Unit) → World → Prop := loopW (fun k1 s w => culletlaw12_sameBytes.b1 R k1 s.1 s.2.1 s.2.2.1 s.2.2.2.1 w)
def culletlaw12_sameBytes.M (R : Ending → World → Prop) (a_0 : Sl) (b_1 : Sl) (w : World) : Prop :=
  Cd (((a_0.len : Nat) : Int) != ((b_1.len : Nat) : Int)) (R (.returned (.bool false)) w) (culletlaw12_sameBytes.l1 R (a_0, b_1, ((a_0.len : Nat) : Int), 0, ()) w)
noncomputable def culletlaw12_sameBytes.ann (R : Ending → World → Prop) : Ann :=
  .seq (.reg (.op 0 .now (.done))) (.seq (.seq (.reg (.op 0 .now (.op 1 .now (.op 2 .now (.op 3 .now (.op 4 .now (.done))))))) (.cond (.seq (.reg (.op 0 .now (.done))) (.leaf)) (.leaf))) (.seq (.seq (.reg (.op 0 .now (.op 1 .now (.op 2 .now (.done))))) (.block (.loop [(0, .at .sl), (1, .at .sl), (12, .at (.int .i64)), (13, .at (.int .i64))] (fun k1 s w => culletlaw12_sameBytes.b1 R k1 s.1 s.2.1 s.2.2.1 s.2.2.2.1 w) (fun k1 => .seq (.reg (.op 0 .now (.done))) (.seq (.cond (.leaf) (.leaf)) (.seq (.block (.seq (.reg (.op 0 .now (.op 1 .now (.done)))) (.seq (.regQ (.op 0 .now (.op 1 .now (.op 2 (.pu (.one (.at .addr))) (.op 3 (.rd (.one (.at (.int .u8)))) (.op 4 .now (.op 5 .now (.op 6 (.pu (.one (.at .addr))) (.op 7 (.rd (.one (.at (.int .u8)))) (.op 8 .now (.done))))))))))) (.cond (.seq (.reg (.op 0 .now (.done))) (.leaf)) (.leaf))))) (.reg (.op 0 .now (.op 1 .now (.done)))))))))) (.seq (.reg (.op 0 .now (.done))) (.leaf))))
theorem culletlaw12_sameBytes.run (R : Ending → World → Prop) (a_0 : Sl) (b_1 : Sl) (w : World) (h : culletlaw12_sameBytes.M R a_0 b_1 w) : Calls Try.prog 45 #[(.slice a_0.base a_0.len a_0.cap), (.slice b_1.base b_1.len b_1.cap)] w R := by
  refine calls_of_lift mix_eq Try.func45 (c := culletlaw12_sameBytes.body) (by kernel_rfl) [.at .bool] (culletlaw12_sameBytes.ann R) 26 Try.ntmps45 [.tmp 4] (by kernel_rfl) (Nat.le_of_ble_eq_true (by kernel_rfl)) ?_ ?_
  · exact ⟨trivial, ⟨⟨trivial, ⟨⟨trivial, trivial⟩, trivial⟩⟩, ⟨⟨trivial, (fun k1 => ⟨fun s w h => Eq.mp (by kernel_rfl) h, ⟨trivial, ⟨⟨trivial, trivial⟩, ⟨⟨trivial, ⟨(show Region.noSelect _ = true by kernel_rfl), ⟨⟨trivial, trivial⟩, trivial⟩⟩⟩, trivial⟩⟩⟩⟩)⟩, ⟨trivial, trivial⟩⟩⟩⟩
  · exact Eq.mp (show culletlaw12_sameBytes.M R a_0 b_1 w = _ by kernel_rfl) h

noncomputable def trie_prune.body : Code := (Try.f46.body).getD .skip
def trie_prune.j1 (R : Ending → World → Prop)  (n_0 : (Option Addr)) (w : World) : Prop :=
  Pu Try.prog (nilCk n_0) (.one (.at .addr)) (fun (x1 : Addr) w2 =>
  Rd Try.prog (Instr.loadAt 4 (.pointer (some (Addr.add x1 1)))) (.one (.at .bool)) (fun (x3 : Bool) w4 =>
  Cd x3 (R (.returned (.bool true)) w4) (Pu Try.prog (nilCk n_0) (.one (.at .addr)) (fun (x5 : Addr) w6 =>
  Rd Try.prog (Instr.loadAt 79 (.pointer (some x5))) (.one (.at .map)) (fun (x7 : (Option Nat)) w8 =>
  Rd Try.prog (Builtin.len_ #[79] 3 #[(.map x7)]) (.one (.at (.int .i64))) (fun (x9 : Int) w10 =>
  R (.returned (.bool (decide (x9 > 0)))) w10) w8) w6) w4)) w2) w
def trie_prune.j3 (R : Ending → World → Prop)  (n_0 : (Option Addr)) (key_1 : Sl) (t25 : Bool) (w : World) : Prop :=
  Cd t25 (Held w.drew (fun S11 => Pu Try.prog (nilCk n_0) (.one (.at .addr)) (fun (x12 : Addr) w13 =>
  RdS Try.prog S11 (Instr.loadAt 79 (.pointer (some x12))) (.one (.at .map)) (fun (x14 : (Option Nat)) w15 =>
  Pu Try.prog (Instr.indexAt 29 (.slice key_1.base key_1.len key_1.cap) (.int .i64 0)) (.one (.at .addr)) (fun (x16 : Addr) w17 =>
  RdS Try.prog S11 (Instr.loadAt 3 (.pointer (some x16))) (.one (.at (.int .i64))) (fun (x18 : Int) w19 =>
  Wr Try.prog (Builtin.delete_ #[79, 3] 0 #[(.map x14), (.int .i64 x18)]) (.one (.at .any)) (fun x20 w21 =>
  S11 w21 ∧ (trie_prune.j1 R n_0 w21)) w19) w17) w15) w13) w.drew)) (trie_prune.j1 R n_0 w)
def trie_prune.j2 (R : Ending → World → Prop)  (n_0 : (Option Addr)) (key_1 : Sl) (next_5 : (Option Addr)) (w : World) : Prop :=
  Pu Try.prog (do eqGuard .neq 74 (.tmp 17) (.const (.pointer none)) (.pointer next_5) (.pointer none); binOp .neq 74 (.pointer next_5) (.pointer none)) (.one (.at .bool)) (fun (x22 : Bool) w23 =>
  Cd x22 (Pu Try.prog (Instr.sliceAt 29 (.slice key_1.base key_1.len key_1.cap) (some (.int .i64 1)) none none) (.one (.at .sl)) (fun (x24 : Sl) w25 =>
  Cl Try.prog 46 #[(.pointer next_5), (.slice x24.base x24.len x24.cap)] (.one (.at .bool)) (fun (x26 : Bool) w27 =>
  trie_prune.j3 R n_0 key_1 (!x26) w27) w25) w23) (trie_prune.j3 R n_0 key_1 false w23)) w
def trie_prune.M (R : Ending → World → Prop) (n_0 : (Option Addr)) (key_1 : Sl) (w : World) : Prop :=
  Cd (decide (((key_1.len : Nat) : Int) > 0)) (Pu Try.prog (nilCk n_0) (.one (.at .addr)) (fun (x28 : Addr) w29 =>
  RdS Try.prog (Same w.drew) (Instr.loadAt 79 (.pointer (some x28))) (.one (.at .map)) (fun (x30 : (Option Nat)) w31 =>
  Pu Try.prog (Instr.indexAt 29 (.slice key_1.base key_1.len key_1.cap) (.int .i64 0)) (.one (.at .addr)) (fun (x32 : Addr) w33 =>
  RdS Try.prog (Same w.drew) (Instr.loadAt 3 (.pointer (some x32))) (.one (.at (.int .i64))) (fun (x34 : Int) w35 =>
  RdS Try.prog (Same w.drew) (Instr.lookup 79 (.map x30) (.int .i64 x34) false) (.one (.at .ptr)) (fun (x36 : (Option Addr)) w37 =>
  trie_prune.j2 R n_0 key_1 x36 w37) w35) w33) w31) w29) w.drew) (trie_prune.j1 R n_0 w)
noncomputable def trie_prune.ann (R : Ending → World → Prop) : Ann :=
  .seq (.reg (.op 0 .now (.done))) (.join [(0, .at .ptr)] (fun s w => trie_prune.j1 R s.1 w) (.seq (.reg (.op 0 .now (.op 1 .now (.op 2 .now (.done))))) (.cond (.join [(0, .at .ptr), (1, .at .sl), (5, .at .ptr)] (fun s w => trie_prune.j2 R s.1 s.2.1 s.2.2.1 w) (.regQ (.op 0 .now (.op 1 (.pu (.one (.at .addr))) (.op 2 .now (.op 3 (.rd (.one (.at .map))) (.op 4 .now (.op 5 (.pu (.one (.at .addr))) (.op 6 (.rd (.one (.at (.int .i64)))) (.op 7 (.rd (.one (.at .ptr))) (.op 8 .now (.done))))))))))) (.join [(0, .at .ptr), (1, .at .sl), (25, .at .bool)] (fun s w => trie_prune.j3 R s.1 s.2.1 s.2.2.1 w) (.reg (.op 0 .now (.op 1 (.pu (.one (.at .bool))) (.op 2 .now (.split 2 (.op 3 .now (.op 4 .now (.op 5 (.pu (.one (.at .sl))) (.op 6 (.cl (.one (.at .bool))) (.op 7 .now (.op 8 .now (.done))))))) (.skip 3 (.skip 4 (.skip 5 (.skip 6 (.skip 7 (.op 8 .now (.done)))))))))))) (.cond (.regD (.op 0 .now (.op 1 (.pu (.one (.at .addr))) (.op 2 .now (.op 3 (.rd (.one (.at .map))) (.op 4 .now (.op 5 (.pu (.one (.at .addr))) (.op 6 (.rd (.one (.at (.int .i64)))) (.op 7 (.wr (.one (.at .any))) (.done)))))))))) (.leaf)))) (.leaf))) (.seq (.reg (.op 0 .now (.op 1 (.pu (.one (.at .addr))) (.op 2 .now (.op 3 (.rd (.one (.at .bool))) (.op 4 .now (.split 4 (.skip 5 (.skip 6 (.skip 7 (.skip 8 (.skip 9 (.skip 10 (.op 11 .now (.op 12 .now (.done))))))))) (.op 5 .now (.op 6 (.pu (.one (.at .addr))) (.op 7 .now (.op 8 (.rd (.one (.at .map))) (.op 9 (.rd (.one (.at (.int .i64)))) (.op 10 .now (.op 11 .now (.op 12 .now (.done)))))))))))))))) (.leaf)))
theorem trie_prune.run (R : Ending → World → Prop) (n_0 : (Option Addr)) (key_1 : Sl) (w : World) (h : trie_prune.M R n_0 key_1 w) : Calls Try.prog 46 #[(.pointer n_0), (.slice key_1.base key_1.len key_1.cap)] w R := by
  refine calls_of_lift mix_eq Try.func46 (c := trie_prune.body) (by kernel_rfl) [.at .bool] (trie_prune.ann R) 45 Try.ntmps46 [.tmp 4] (by kernel_rfl) (Nat.le_of_ble_eq_true (by kernel_rfl)) ?_ ?_
  · exact ⟨trivial, ⟨fun s w h => Eq.mp (by kernel_rfl) h, ⟨trivial, ⟨⟨fun s w h => Eq.mp (by kernel_rfl) h, (show Region.noSelect _ = true by kernel_rfl), ⟨fun s w h => Eq.mp (by kernel_rfl) h, trivial, ⟨(show Region.noSelect _ = true by kernel_rfl), trivial⟩⟩⟩, trivial⟩⟩, ⟨trivial, trivial⟩⟩⟩
  · exact Eq.mp (show trie_prune.M R n_0 key_1 w = _ by kernel_rfl) h

noncomputable def trie_node_walk.body : Code := (Try.f47.body).getD .skip
def trie_node_walk.j2 (R : Ending → World → Prop)  (k2 : ((Option Addr) × Sl × Sl × Sl × Int × Int × Unit) → World → Prop) (n_0 : (Option Addr)) (key_1 : Sl) (list_2 : Sl) (t46 : Sl) (t47 : Int) (t48 : Int) (w : World) : Prop :=
  k2 (n_0, key_1, list_2, t46, t47, (IntKind.wrap .i64 (t48 + 1)), ()) w
def trie_node_walk.b2 (R : Ending → World → Prop) (k2 : ((Option Addr) × Sl × Sl × Sl × Int × Int × Unit) → World → Prop) (n_0 : (Option Addr)) (key_1 : Sl) (list_2 : Sl) (t46 : Sl) (t47 : Int) (t48 : Int) (w : World) : Prop :=
  Cd (decide (t48 < t47)) (Pu Try.prog (Instr.indexAt 29 (.slice t46.base t46.len t46.cap) (.int .i64 t48)) (.one (.at .addr)) (fun (x25 : Addr) w26 =>
  Rd Try.prog (Instr.loadAt 3 (.pointer (some x25))) (.one (.at (.int .i64))) (fun (x27 : Int) w28 =>
  Held w28.drew (fun S29 => Pu Try.prog (nilCk n_0) (.one (.at .addr)) (fun (x30 : Addr) w31 =>
  RdS Try.prog S29 (Instr.loadAt 79 (.pointer (some x30))) (.one (.at .map)) (fun (x32 : (Option Nat)) w33 =>
  RdS Try.prog S29 (Instr.lookup 79 (.map x32) (.int .i64 x27) false) (.one (.at .ptr)) (fun (x34 : (Option Addr)) w35 =>
  (Cl Try.prog 52 #[(.slice key_1.base key_1.len key_1.cap)] (.one (.at .sl)) (fun (x36 : Sl) w37 =>
  S29 w37 ∧ (Wr Try.prog (Instr.buildSlice 29 1 #[(0, (.int .i64 x27))]) (.one (.at .sl)) (fun (x38 : Sl) w39 =>
  S29 w39 ∧ (Wr Try.prog (Builtin.append_ #[29, 29] 29 #[(.slice x36.base x36.len x36.cap), (.slice x38.base x38.len x38.cap)]) (.one (.at .sl)) (fun (x40 : Sl) w41 =>
  S29 w41 ∧ (Cl Try.prog 47 #[(.pointer x34), (.slice x40.base x40.len x40.cap), (.slice list_2.base list_2.len list_2.cap)] (.one (.at .sl)) (fun (x42 : Sl) w43 =>
  S29 w43 ∧ (trie_node_walk.j2 R k2 n_0 key_1 x42 t46 t47 t48 w43)) w41)) w39)) w37)) w35) ∧ (Wr Try.prog (Instr.buildSlice 29 1 #[(0, (.int .i64 x27))]) (.one (.at .sl)) (fun (x44 : Sl) w45 =>
  S29 w45 ∧ (Cl Try.prog 52 #[(.slice key_1.base key_1.len key_1.cap)] (.one (.at .sl)) (fun (x46 : Sl) w47 =>
  S29 w47 ∧ (Wr Try.prog (Builtin.append_ #[29, 29] 29 #[(.slice x46.base x46.len x46.cap), (.slice x44.base x44.len x44.cap)]) (.one (.at .sl)) (fun (x48 : Sl) w49 =>
  S29 w49 ∧ (Cl Try.prog 47 #[(.pointer x34), (.slice x48.base x48.len x48.cap), (.slice list_2.base list_2.len list_2.cap)] (.one (.at .sl)) (fun (x50 : Sl) w51 =>
  S29 w51 ∧ (trie_node_walk.j2 R k2 n_0 key_1 x50 t46 t47 t48 w51)) w49)) w47)) w45)) w35)) w33) w31) w28.drew)) w26) w) (R (.returned (.slice list_2.base list_2.len list_2.cap)) w)
def trie_node_walk.l2 (R : Ending → World → Prop) : ((Option Addr) × Sl × Sl × Sl × Int × Int × Unit) → World → Prop := loopW (fun k2 s w => trie_node_walk.b2 R k2 s.1 s.2.1 s.2.2.1 s.2.2.2.1 s.2.2.2.2.1 s.2.2.2.2.2.1 w)
def trie_node_walk.b1 (R : Ending → World → Prop) (k1 : ((Option Addr) × Sl × Sl × Sl × Addr × Unit) → World → Prop) (n_0 : (Option Addr)) (key_1 : Sl) (list_2 : Sl) (numbers_7 : Sl) (t35 : Addr) (w : World) : Prop :=
  Wr Try.prog (Instr.next (.pointer (some t35)) false 0) (.nxt (.int .i64) (.ptr)) (fun x15 w16 =>
  Cd x15.isSome (Rd Try.prog (Instr.entry (.pointer (some t35))) (.tup [.at (.int .i64), .at .ptr]) (fun x17 w18 =>
  Wr Try.prog (Instr.buildSlice 29 1 #[(0, (.int .i64 x17.1))]) (.one (.at .sl)) (fun (x19 : Sl) w20 =>
  Wr Try.prog (Builtin.append_ #[29, 29] 29 #[(.slice numbers_7.base numbers_7.len numbers_7.cap), (.slice x19.base x19.len x19.cap)]) (.one (.at .sl)) (fun (x21 : Sl) w22 =>
  k1 (n_0, key_1, list_2, x21, t35, ()) w22) w20) w18) w16) (Cl Try.prog 66 #[(.slice numbers_7.base numbers_7.len numbers_7.cap)] (.tup []) (fun x23 w24 =>
  trie_node_walk.l2 R (n_0, key_1, list_2, numbers_7, ((numbers_7.len : Nat) : Int), 0, ()) w24) w16)) w
def trie_node_walk.l1 (R : Ending → World → Prop) : ((Option Addr) × Sl × Sl × Sl × Addr × Unit) → World → Prop := loopW (fun k1 s w => trie_node_walk.b1 R k1 s.1 s.2.1 s.2.2.1 s.2.2.2.1 s.2.2.2.2.1 w)
def trie_node_walk.j1 (R : Ending → World → Prop)  (n_0 : (Option Addr)) (key_1 : Sl) (list_2 : Sl) (w : World) : Prop :=
  Pu Try.prog (nilCk n_0) (.one (.at .addr)) (fun (x1 : Addr) w2 =>
  Rd Try.prog (Instr.loadAt 79 (.pointer (some x1))) (.one (.at .map)) (fun (x3 : (Option Nat)) w4 =>
  Rd Try.prog (Builtin.len_ #[79] 3 #[(.map x3)]) (.one (.at (.int .i64))) (fun (x5 : Int) w6 =>
  Wr Try.prog (Instr.makeSlice 29 (.int .i64 0) (.int .i64 x5)) (.one (.at .sl)) (fun (x7 : Sl) w8 =>
  Pu Try.prog (nilCk n_0) (.one (.at .addr)) (fun (x9 : Addr) w10 =>
  Rd Try.prog (Instr.loadAt 79 (.pointer (some x9))) (.one (.at .map)) (fun (x11 : (Option Nat)) w12 =>
  Wr Try.prog (Instr.range 79 (.map x11)) (.one (.at .addr)) (fun (x13 : Addr) w14 =>
  trie_node_walk.l1 R (n_0, key_1, list_2, x7, x13, ()) w14) w12) w10) w8) w6) w4) w2) w
def trie_node_walk.M (R : Ending → World → Prop) (n_0 : (Option Addr)) (key_1 : Sl) (list_2 : Sl) (w : World) : Prop :=
  Pu Try.prog (nilCk n_0) (.one (.at .addr)) (fun (x52 : Addr) w53 =>
  Rd Try.prog (Instr.loadAt 4 (.pointer (some (Addr.add x52 1)))) (.one (.at .bool)) (fun (x54 : Bool) w55 =>
  Cd x54 (Held w55.drew (fun S56 => Pu Try.prog (nilCk n_0) (.one (.at .addr)) (fun (x57 : Addr) w58 =>
  RdS Try.prog S56 (Instr.loadAt 3 (.pointer (some (Addr.add x57 3)))) (.one (.at (.int .i64))) (fun (x59 : Int) w60 =>
  Cl Try.prog 52 #[(.slice key_1.base key_1.len key_1.cap)] (.one (.at .sl)) (fun (x61 : Sl) w62 =>
  S56 w62 ∧ (Wr Try.prog (Instr.buildSlice 85 1 #[(0, (.agg #[(.slice x61.base x61.len x61.cap), (.int .i64 x59)]))]) (.one (.at .sl)) (fun (x63 : Sl) w64 =>
  S56 w64 ∧ (Wr Try.prog (Builtin.append_ #[85, 85] 85 #[(.slice list_2.base list_2.len list_2.cap), (.slice x63.base x63.len x63.cap)]) (.one (.at .sl)) (fun (x65 : Sl) w66 =>
  S56 w66 ∧ (trie_node_walk.j1 R n_0 key_1 x65 w66)) w64)) w62)) w60) w58) w55.drew)) (trie_node_walk.j1 R n_0 key_1 list_2 w55)) w53) w
noncomputable def trie_node_walk.ann (R : Ending → World → Prop) : Ann :=
  .seq (.reg (.op 0 .now (.done))) (.join [(0, .at .ptr), (1, .at .sl), (2, .at .sl)] (fun s w => trie_node_walk.j1 R s.1 s.2.1 s.2.2.1 w) (.seq (.reg (.op 0 .now (.op 1 (.pu (.one (.at .addr))) (.op 2 .now (.op 3 (.rd (.one (.at .bool))) (.done)))))) (.cond (.regD (.op 0 .now (.op 1 .now (.op 3 .now (.op 4 (.pu (.one (.at .addr))) (.op 5 .now (.op 6 (.rd (.one (.at (.int .i64)))) (.op 2 (.cl (.one (.at .sl))) (.op 7 .now (.op 8 (.wr (.one (.at .sl))) (.op 9 (.wr (.one (.at .sl))) (.op 10 .now (.done))))))))))))) (.leaf))) (.seq (.reg (.op 0 .now (.op 1 (.pu (.one (.at .addr))) (.op 2 .now (.op 3 (.rd (.one (.at .map))) (.op 4 (.rd (.one (.at (.int .i64)))) (.op 5 (.wr (.one (.at .sl))) (.op 6 .now (.done))))))))) (.seq (.seq (.reg (.op 0 .now (.op 1 (.pu (.one (.at .addr))) (.op 2 .now (.op 3 (.rd (.one (.at .map))) (.op 4 (.wr (.one (.at .addr))) (.done))))))) (.block (.loop [(0, .at .ptr), (1, .at .sl), (2, .at .sl), (7, .at .sl), (35, .at .addr)] (fun k1 s w => trie_node_walk.b1 R k1 s.1 s.2.1 s.2.2.1 s.2.2.2.1 s.2.2.2.2.1 w) (fun k1 => .seq (.reg (.op 0 (.wr (.nxt (.int .i64) (.ptr))) (.op 1 .now (.done)))) (.seq (.cond (.leaf) (.leaf)) (.block (.seq (.reg (.op 0 (.rd (.tup [.at (.int .i64), .at .ptr])) (.op 1 .now (.op 2 .now (.done))))) (.reg (.op 0 .now (.op 1 .now (.op 2 (.wr (.one (.at .sl))) (.op 3 (.wr (.one (.at .sl))) (.op 4 .now (.done)))))))))))))) (.seq (.reg (.op 0 .now (.op 1 (.cl (.tup [])) (.done)))) (.seq (.seq (.reg (.op 0 .now (.op 1 .now (.op 2 .now (.done))))) (.block (.loop [(0, .at .ptr), (1, .at .sl), (2, .at .sl), (46, .at .sl), (47, .at (.int .i64)), (48, .at (.int .i64))] (fun k2 s w => trie_node_walk.b2 R k2 s.1 s.2.1 s.2.2.1 s.2.2.2.1 s.2.2.2.2.1 s.2.2.2.2.2.1 w) (fun k2 => .seq (.reg (.op 0 .now (.done))) (.seq (.cond (.leaf) (.leaf)) (.join [(0, .at .ptr), (1, .at .sl), (2, .at .sl), (46, .at .sl), (47, .at (.int .i64)), (48, .at (.int .i64))] (fun s w => trie_node_walk.j2 R k2 s.1 s.2.1 s.2.2.1 s.2.2.2.1 s.2.2.2.2.1 s.2.2.2.2.2.1 w) (.block (.seq (.reg (.op 0 (.pu (.one (.at .addr))) (.op 1 (.rd (.one (.at (.int .i64)))) (.op 2 .now (.done))))) (.regD (.op 0 .now (.op 1 (.pu (.one (.at .addr))) (.op 2 .now (.op 3 (.rd (.one (.at .map))) (.op 4 .now (.op 5 (.rd (.one (.at .ptr))) (.op 6 .now (.op 8 .now (.op 11 .now (.fork2 7 (.cl (.one (.at .sl))) (.op 9 (.wr (.one (.at .sl))) (.op 10 (.wr (.one (.at .sl))) (.op 12 (.cl (.one (.at .sl))) (.op 13 .now (.done))))) 9 (.wr (.one (.at .sl))) (.op 7 (.cl (.one (.at .sl))) (.op 10 (.wr (.one (.at .sl))) (.op 12 (.cl (.one (.at .sl))) (.op 13 .now (.done)))))))))))))))))) (.reg (.op 0 .now (.op 1 .now (.done)))))))))) (.seq (.reg (.op 0 .now (.op 1 .now (.done)))) (.leaf)))))))
theorem trie_node_walk.run (R : Ending → World → Prop) (n_0 : (Option Addr)) (key_1 : Sl) (list_2 : Sl) (w : World) (h : trie_node_walk.M R n_0 key_1 list_2 w) : Calls Try.prog 47 #[(.pointer n_0), (.slice key_1.base key_1.len key_1.cap), (.slice list_2.base list_2.len list_2.cap)] w R := by
  refine calls_of_lift mix_eq Try.func47 (c := trie_node_walk.body) (by kernel_rfl) [.at .sl] (trie_node_walk.ann R) 67 Try.ntmps47 [.tmp 6] (by kernel_rfl) (Nat.le_of_ble_eq_true (by kernel_rfl)) ?_ ?_
  · exact ⟨trivial, ⟨fun s w h => Eq.mp (by kernel_rfl) h, ⟨trivial, ⟨(show Region.noSelect _ = true by kernel_rfl), trivial⟩⟩, ⟨trivial, ⟨⟨trivial, (fun k1 => ⟨fun s w h => Eq.mp (by kernel_rfl) h, ⟨trivial, ⟨⟨trivial, trivial⟩, ⟨trivial, trivial⟩⟩⟩⟩)⟩, ⟨trivial, ⟨⟨trivial, (fun k2 => ⟨fun s w h => Eq.mp (by kernel_rfl) h, ⟨trivial, ⟨⟨trivial, trivial⟩, ⟨fun s w h => Eq.mp (by kernel_rfl) h, ⟨trivial, (show Region.noSelect _ = true by kernel_rfl)⟩, trivial⟩⟩⟩⟩)⟩, ⟨trivial, trivial⟩⟩⟩⟩⟩⟩⟩
  · exact Eq.mp (show trie_node_walk.M R n_0 key_1 list_2 w = _ by kernel_rfl) h

noncomputable def trie_Trie_Recent_1.body : Code := (Try.f49.body).getD .skip
def trie_Trie_Recent_1.M (R : Ending → World → Prop) (a_0 : (Sl × Int × Unit)) (b_1 : (Sl × Int × Unit)) (w : World) : Prop :=
  Wr Try.prog (Instr.box 89 (.agg #[(.slice a_0.1.base a_0.1.len a_0.1.cap), (.int .i64 a_0.2.1)])) (.one (.at .addr)) (fun (x1 : Addr) w2 =>
  Wr Try.prog (Instr.box 89 (.agg #[(.slice b_1.1.base b_1.1.len b_1.1.cap), (.int .i64 b_1.2.1)])) (.one (.at .addr)) (fun (x3 : Addr) w4 =>
  Rd Try.prog (Instr.loadAt 3 (.pointer (some (Addr.add x3 1)))) (.one (.at (.int .i64))) (fun (x5 : Int) w6 =>
  Rd Try.prog (Instr.loadAt 3 (.pointer (some (Addr.add x1 1)))) (.one (.at (.int .i64))) (fun (x7 : Int) w8 =>
  R (.returned (.int .i64 (IntKind.wrap .i64 (x5 - x7)))) w8) w6) w4) w2) w
noncomputable def trie_Trie_Recent_1.ann (R : Ending → World → Prop) : Ann :=
  .seq (.reg (.op 0 (.wr (.one (.at .addr))) (.op 1 (.wr (.one (.at .addr))) (.op 2 .now (.done))))) (.seq (.reg (.op 0 .now (.op 1 (.rd (.one (.at (.int .i64)))) (.op 2 .now (.op 3 (.rd (.one (.at (.int .i64)))) (.op 4 .now (.op 5 .now (.done)))))))) (.leaf))
theorem trie_Trie_Recent_1.run (R : Ending → World → Prop) (a_0 : (Sl × Int × Unit)) (b_1 : (Sl × Int × Unit)) (w : World) (h : trie_Trie_Recent_1.M R a_0 b_1 w) : Calls Try.prog 49 #[(.agg #[(.slice a_0.1.base a_0.1.len a_0.1.cap), (.int .i64 a_0.2.1)]), (.agg #[(.slice b_1.1.base b_1.1.len b_1.1.cap), (.int .i64 b_1.2.1)])] w R := by
  refine calls_of_lift mix_eq Try.func49 (c := trie_Trie_Recent_1.body) (by kernel_rfl) [.at (.int .i64)] (trie_Trie_Recent_1.ann R) 10 Try.ntmps49 [.tmp 4] (by kernel_rfl) (Nat.le_of_ble_eq_true (by kernel_rfl)) ?_ ?_
  · exact ⟨trivial, ⟨trivial, trivial⟩⟩
  · exact Eq.mp (show trie_Trie_Recent_1.M R a_0 b_1 w = _ by kernel_rfl) h

noncomputable def trie_keys.body : Code := (Try.f50.body).getD .skip
def trie_keys.b1 (R : Ending → World → Prop) (k1 : (Sl × Sl × Int × Int × Unit) → World → Prop) (out_3 : Sl) (t9 : Sl) (t10 : Int) (t11 : Int) (w : World) : Prop :=
  Cd (decide (t11 < t10)) (Pu Try.prog (Instr.indexAt 85 (.slice t9.base t9.len t9.cap) (.int .i64 t11)) (.one (.at .addr)) (fun (x3 : Addr) w4 =>
  Rd Try.prog (Instr.loadAt 89 (.pointer (some x3))) (.one (.agg [.sl, .int .i64])) (fun x5 w6 =>
  Wr Try.prog (Instr.alloc 89 true (.tuple #[])) (.one (.at .addr)) (fun (x7 : Addr) w8 =>
  Wu Try.prog (Instr.storeAt 89 (.pointer (some x7)) (.agg #[(.slice x5.1.base x5.1.len x5.1.cap), (.int .i64 x5.2.1)])) (fun w9 =>
  Rd Try.prog (Instr.loadAt 29 (.pointer (some x7))) (.one (.at .sl)) (fun (x10 : Sl) w11 =>
  Wr Try.prog (Builtin.append_ #[29, 29] 29 #[(.slice none 0 0), (.slice x10.base x10.len x10.cap)]) (.one (.at .sl)) (fun (x12 : Sl) w13 =>
  Pu Try.prog (Instr.indexAt 45 (.slice out_3.base out_3.len out_3.cap) (.int .i64 t11)) (.one (.at .addr)) (fun (x14 : Addr) w15 =>
  Wu Try.prog (Instr.storeAt 29 (.pointer (some x14)) (.slice x12.base x12.len x12.cap)) (fun w16 =>
  k1 (out_3, t9, t10, (IntKind.wrap .i64 (t11 + 1)), ()) w16) w15) w13) w11) w9) w8) w6) w4) w) (R (.returned (.slice out_3.base out_3.len out_3.cap)) w)
def trie_keys.l1 (R : Ending → World → Prop) : (Sl × Sl × Int × Int × Unit) → World → Prop := loopW (fun k1 s w => trie_keys.b1 R k1 s.1 s.2.1 s.2.2.1 s.2.2.2.1 w)
def trie_keys.M (R : Ending → World → Prop) (list_0 : Sl) (w : World) : Prop :=
  Wr Try.prog (Instr.makeSlice 45 (.int .i64 ((list_0.len : Nat) : Int)) (.int .i64 ((list_0.len : Nat) : Int))) (.one (.at .sl)) (fun (x1 : Sl) w2 =>
  trie_keys.l1 R (x1, list_0, ((list_0.len : Nat) : Int), 0, ()) w2) w
noncomputable def trie_keys.ann (R : Ending → World → Prop) : Ann :=
  .seq (.reg (.op 0 .now (.done))) (.seq (.reg (.op 0 .now (.op 1 .now (.op 2 (.wr (.one (.at .sl))) (.op 3 .now (.done)))))) (.seq (.seq (.reg (.op 0 .now (.op 1 .now (.op 2 .now (.done))))) (.block (.loop [(3, .at .sl), (9, .at .sl), (10, .at (.int .i64)), (11, .at (.int .i64))] (fun k1 s w => trie_keys.b1 R k1 s.1 s.2.1 s.2.2.1 s.2.2.2.1 w) (fun k1 => .seq (.reg (.op 0 .now (.done))) (.seq (.cond (.leaf) (.leaf)) (.seq (.block (.seq (.reg (.op 0 .now (.op 1 (.pu (.one (.at .addr))) (.op 2 (.rd (.one (.agg [.sl, .int .i64]))) (.op 3 (.wr (.one (.at .addr))) (.op 4 .now (.op 5 .wu (.done)))))))) (.reg (.op 0 .now (.op 1 .now (.op 2 .now (.op 3 (.rd (.one (.at .sl))) (.op 4 (.wr (.one (.at .sl))) (.op 5 (.pu (.one (.at .addr))) (.op 6 .wu (.done))))))))))) (.reg (.op 0 .now (.op 1 .now (.done)))))))))) (.seq (.reg (.op 0 .now (.op 1 .now (.done)))) (.leaf))))
theorem trie_keys.run (R : Ending → World → Prop) (list_0 : Sl) (w : World) (h : trie_keys.M R list_0 w) : Calls Try.prog 50 #[(.slice list_0.base list_0.len list_0.cap)] w R := by
  refine calls_of_lift mix_eq Try.func50 (c := trie_keys.body) (by kernel_rfl) [.at .sl] (trie_keys.ann R) 24 Try.ntmps50 [.tmp 2] (by kernel_rfl) (Nat.le_of_ble_eq_true (by kernel_rfl)) ?_ ?_
  · exact ⟨trivial, ⟨trivial, ⟨⟨trivial, (fun k1 => ⟨fun s w h => Eq.mp (by kernel_rfl) h, ⟨trivial, ⟨⟨trivial, trivial⟩, ⟨⟨trivial, trivial⟩, trivial⟩⟩⟩⟩)⟩, ⟨trivial, trivial⟩⟩⟩⟩
  · exact Eq.mp (show trie_keys.M R list_0 w = _ by kernel_rfl) h

noncomputable def trie_Trie_find.body : Code := (Try.f51.body).getD .skip
def trie_Trie_find.b1 (R : Ending → World → Prop) (k1 : ((Option Addr) × Sl × Int × Int × Unit) → World → Prop) (n_5 : (Option Addr)) (t26 : Sl) (t27 : Int) (t28 : Int) (w : World) : Prop :=
  Cd (decide (t28 < t27)) (Pu Try.prog (Instr.indexAt 29 (.slice t26.base t26.len t26.cap) (.int .i64 t28)) (.one (.at .addr)) (fun (x5 : Addr) w6 =>
  Rd Try.prog (Instr.loadAt 3 (.pointer (some x5))) (.one (.at (.int .i64))) (fun (x7 : Int) w8 =>
  Pu Try.prog (nilCk n_5) (.one (.at .addr)) (fun (x9 : Addr) w10 =>
  Rd Try.prog (Instr.loadAt 79 (.pointer (some x9))) (.one (.at .map)) (fun (x11 : (Option Nat)) w12 =>
  Rd Try.prog (Instr.lookup 79 (.map x11) (.int .i64 x7) false) (.one (.at .ptr)) (fun (x13 : (Option Addr)) w14 =>
  Pu Try.prog (do eqGuard .eql 74 (.tmp 38) (.const (.pointer none)) (.pointer x13) (.pointer none); binOp .eql 74 (.pointer x13) (.pointer none)) (.one (.at .bool)) (fun (x15 : Bool) w16 =>
  Cd x15 (R (.returned (.pointer none)) w16) (k1 (x13, t26, t27, (IntKind.wrap .i64 (t28 + 1)), ()) w16)) w14) w12) w10) w8) w6) w) (R (.returned (.pointer n_5)) w)
def trie_Trie_find.l1 (R : Ending → World → Prop) : ((Option Addr) × Sl × Int × Int × Unit) → World → Prop := loopW (fun k1 s w => trie_Trie_find.b1 R k1 s.1 s.2.1 s.2.2.1 s.2.2.2.1 w)
def trie_Trie_find.j1 (R : Ending → World → Prop)  (t_0 : (Option Addr)) (key_1 : Sl) (t21 : Bool) (w : World) : Prop :=
  Cd t21 (R (.returned (.pointer none)) w) (Pu Try.prog (nilCk t_0) (.one (.at .addr)) (fun (x1 : Addr) w2 =>
  Rd Try.prog (Instr.loadAt 74 (.pointer (some x1))) (.one (.at .ptr)) (fun (x3 : (Option Addr)) w4 =>
  trie_Trie_find.l1 R (x3, key_1, ((key_1.len : Nat) : Int), 0, ()) w4) w2) w)
def trie_Trie_find.M (R : Ending → World → Prop) (t_0 : (Option Addr)) (key_1 : Sl) (w : World) : Prop :=
  Pu Try.prog (do eqGuard .eql 23 (.tmp 8) (.const (.pointer none)) (.pointer t_0) (.pointer none); binOp .eql 23 (.pointer t_0) (.pointer none)) (.one (.at .bool)) (fun (x17 : Bool) w18 =>
  Cd x17 (trie_Trie_find.j1 R t_0 key_1 true w18) (Pu Try.prog (nilCk t_0) (.one (.at .addr)) (fun (x19 : Addr) w20 =>
  Rd Try.prog (Instr.loadAt 74 (.pointer (some x19))) (.one (.at .ptr)) (fun (x21 : (Option Addr)) w22 =>
  Pu Try.prog (do eqGuard .eql 74 (.tmp 14) (.const (.pointer none)) (.pointer x21) (.pointer none); binOp .eql 74 (.pointer x21) (.pointer none)) (.one (.at .bool)) (fun (x23 : Bool) w24 =>
  Cd x23 (trie_Trie_find.j1 R t_0 key_1 true w24) (Cl Try.prog 41 #[(.slice key_1.base key_1.len key_1.cap)] (.one (.at .bool)) (fun (x25 : Bool) w26 =>
  trie_Trie_find.j1 R t_0 key_1 (!x25) w26) w24)) w22) w20) w18)) w
noncomputable def trie_Trie_find.ann (R : Ending → World → Prop) : Ann :=
  .seq (.reg (.op 0 .now (.done))) (.seq (.join [(0, .at .ptr), (1, .at .sl), (21, .at .bool)] (fun s w => trie_Trie_find.j1 R s.1 s.2.1 s.2.2.1 w) (.reg (.op 0 .now (.op 1 (.pu (.one (.at .bool))) (.op 2 .now (.split 2 (.skip 3 (.skip 4 (.skip 5 (.skip 6 (.skip 7 (.op 8 .now (.op 9 .now (.skip 10 (.skip 11 (.skip 12 (.op 13 .now (.done)))))))))))) (.op 3 .now (.op 4 (.pu (.one (.at .addr))) (.op 5 .now (.op 6 (.rd (.one (.at .ptr))) (.op 7 (.pu (.one (.at .bool))) (.op 8 .now (.op 9 .now (.split 9 (.skip 10 (.skip 11 (.skip 12 (.op 13 .now (.done))))) (.op 10 .now (.op 11 (.cl (.one (.at .bool))) (.op 12 .now (.op 13 .now (.done)))))))))))))))))) (.cond (.seq (.reg (.op 0 .now (.done))) (.leaf)) (.leaf))) (.seq (.reg (.op 0 .now (.op 1 (.pu (.one (.at .addr))) (.op 2 .now (.op 3 (.rd (.one (.at .ptr))) (.op 4 .now (.done))))))) (.seq (.seq (.reg (.op 0 .now (.op 1 .now (.op 2 .now (.done))))) (.block (.loop [(5, .at .ptr), (26, .at .sl), (27, .at (.int .i64)), (28, .at (.int .i64))] (fun k1 s w => trie_Trie_find.b1 R k1 s.1 s.2.1 s.2.2.1 s.2.2.2.1 w) (fun k1 => .seq (.reg (.op 0 .now (.done))) (.seq (.cond (.leaf) (.leaf)) (.seq (.block (.seq (.reg (.op 0 (.pu (.one (.at .addr))) (.op 1 (.rd (.one (.at (.int .i64)))) (.op 2 .now (.done))))) (.seq (.reg (.op 0 .now (.op 1 (.pu (.one (.at .addr))) (.op 2 .now (.op 3 (.rd (.one (.at .map))) (.op 4 .now (.op 5 (.rd (.one (.at .ptr))) (.op 6 .now (.done))))))))) (.seq (.reg (.op 0 .now (.op 1 (.pu (.one (.at .bool))) (.done)))) (.cond (.seq (.reg (.op 0 .now (.done))) (.leaf)) (.leaf)))))) (.reg (.op 0 .now (.op 1 .now (.done)))))))))) (.seq (.reg (.op 0 .now (.op 1 .now (.done)))) (.leaf)))))
theorem trie_Trie_find.run (R : Ending → World → Prop) (t_0 : (Option Addr)) (key_1 : Sl) (w : World) (h : trie_Trie_find.M R t_0 key_1 w) : Calls Try.prog 51 #[(.pointer t_0), (.slice key_1.base key_1.len key_1.cap)] w R := by
  refine calls_of_lift mix_eq Try.func51 (c := trie_Trie_find.body) (by kernel_rfl) [.at .ptr] (trie_Trie_find.ann R) 42 Try.ntmps51 [.tmp 4] (by kernel_rfl) (Nat.le_of_ble_eq_true (by kernel_rfl)) ?_ ?_
  · exact ⟨trivial, ⟨⟨fun s w h => Eq.mp (by kernel_rfl) h, trivial, ⟨⟨trivial, trivial⟩, trivial⟩⟩, ⟨trivial, ⟨⟨trivial, (fun k1 => ⟨fun s w h => Eq.mp (by kernel_rfl) h, ⟨trivial, ⟨⟨trivial, trivial⟩, ⟨⟨trivial, ⟨trivial, ⟨trivial, ⟨⟨trivial, trivial⟩, trivial⟩⟩⟩⟩, trivial⟩⟩⟩⟩)⟩, ⟨trivial, trivial⟩⟩⟩⟩⟩
  · exact Eq.mp (show trie_Trie_find.M R t_0 key_1 w = _ by kernel_rfl) h

noncomputable def slices_Clone_intint.body : Code := (Try.f52.body).getD .skip
def slices_Clone_intint.M (R : Ending → World → Prop) (s_0 : Sl) (w : World) : Prop :=
  Pu Try.prog (do eqGuard .eql 29 (.tmp 3) (.const (.slice none 0 0)) (.slice s_0.base s_0.len s_0.cap) (.slice none 0 0); binOp .eql 29 (.slice s_0.base s_0.len s_0.cap) (.slice none 0 0)) (.one (.at .bool)) (fun (x1 : Bool) w2 =>
  Cd x1 (R (.returned (.slice none 0 0)) w2) (Wr Try.prog (Instr.buildSlice 29 0 #[]) (.one (.at .sl)) (fun (x3 : Sl) w4 =>
  Wr Try.prog (Builtin.append_ #[29, 29] 29 #[(.slice x3.base x3.len x3.cap), (.slice s_0.base s_0.len s_0.cap)]) (.one (.at .sl)) (fun (x5 : Sl) w6 =>
  R (.returned (.slice x5.base x5.len x5.cap)) w6) w4) w2)) w
noncomputable def slices_Clone_intint.ann (R : Ending → World → Prop) : Ann :=
  .seq (.reg (.op 0 .now (.done))) (.seq (.seq (.reg (.op 0 .now (.op 1 (.pu (.one (.at .bool))) (.done)))) (.cond (.seq (.reg (.op 0 .now (.done))) (.leaf)) (.leaf))) (.seq (.reg (.op 0 (.wr (.one (.at .sl))) (.op 1 .now (.op 2 (.wr (.one (.at .sl))) (.op 3 .now (.done)))))) (.leaf)))
theorem slices_Clone_intint.run (R : Ending → World → Prop) (s_0 : Sl) (w : World) (h : slices_Clone_intint.M R s_0 w) : Calls Try.prog 52 #[(.slice s_0.base s_0.len s_0.cap)] w R := by
  refine calls_of_lift mix_eq Try.func52 (c := slices_Clone_intint.body) (by kernel_rfl) [.at .sl] (slices_Clone_intint.ann R) 8 Try.ntmps52 [.tmp 2] (by kernel_rfl) (Nat.le_of_ble_eq_true (by kernel_rfl)) ?_ ?_
  · exact ⟨trivial, ⟨⟨trivial, ⟨⟨trivial, trivial⟩, trivial⟩⟩, ⟨trivial, trivial⟩⟩⟩
  · exact Eq.mp (show slices_Clone_intint.M R s_0 w = _ by kernel_rfl) h

noncomputable def trie_node_below.body : Code := (Try.f53.body).getD .skip
def trie_node_below.b1 (R : Ending → World → Prop) (k1 : (Int × Addr × Unit) → World → Prop) (count_3 : Int) (t10 : Addr) (w : World) : Prop :=
  Wr Try.prog (Instr.next (.pointer (some t10)) false 0) (.nxt (.int .i64) (.ptr)) (fun x7 w8 =>
  Cd x7.isSome (Rd Try.prog (Instr.entry (.pointer (some t10))) (.tup [.at (.int .i64), .at .ptr]) (fun x9 w10 =>
  Cl Try.prog 53 #[(.pointer x9.2.1)] (.one (.at (.int .i64))) (fun (x11 : Int) w12 =>
  k1 ((IntKind.wrap .i64 (count_3 + (IntKind.wrap .i64 (1 + x11)))), t10, ()) w12) w10) w8) (R (.returned (.int .i64 count_3)) w8)) w
def trie_node_below.l1 (R : Ending → World → Prop) : (Int × Addr × Unit) → World → Prop := loopW (fun k1 s w => trie_node_below.b1 R k1 s.1 s.2.1 w)
def trie_node_below.M (R : Ending → World → Prop) (n_0 : (Option Addr)) (w : World) : Prop :=
  Pu Try.prog (nilCk n_0) (.one (.at .addr)) (fun (x1 : Addr) w2 =>
  Rd Try.prog (Instr.loadAt 79 (.pointer (some x1))) (.one (.at .map)) (fun (x3 : (Option Nat)) w4 =>
  Wr Try.prog (Instr.range 79 (.map x3)) (.one (.at .addr)) (fun (x5 : Addr) w6 =>
  trie_node_below.l1 R (0, x5, ()) w6) w4) w2) w
noncomputable def trie_node_below.ann (R : Ending → World → Prop) : Ann :=
  .seq (.reg (.op 0 .now (.done))) (.seq (.reg (.op 0 .now (.done))) (.seq (.seq (.reg (.op 0 .now (.op 1 (.pu (.one (.at .addr))) (.op 2 .now (.op 3 (.rd (.one (.at .map))) (.op 4 (.wr (.one (.at .addr))) (.done))))))) (.block (.loop [(3, .at (.int .i64)), (10, .at .addr)] (fun k1 s w => trie_node_below.b1 R k1 s.1 s.2.1 w) (fun k1 => .seq (.reg (.op 0 (.wr (.nxt (.int .i64) (.ptr))) (.op 1 .now (.done)))) (.seq (.cond (.leaf) (.leaf)) (.block (.seq (.reg (.op 0 (.rd (.tup [.at (.int .i64), .at .ptr])) (.op 1 .now (.op 2 .now (.done))))) (.reg (.op 0 .now (.op 1 .now (.op 2 (.cl (.one (.at (.int .i64)))) (.op 3 .now (.op 4 .now (.op 5 .now (.done))))))))))))))) (.seq (.reg (.op 0 .now (.op 1 .now (.done)))) (.leaf))))
theorem trie_node_below.run (R : Ending → World → Prop) (n_0 : (Option Addr)) (w : World) (h : trie_node_below.M R n_0 w) : Calls Try.prog 53 #[(.pointer n_0)] w R := by
  refine calls_of_lift mix_eq Try.func53 (c := trie_node_below.body) (by kernel_rfl) [.at (.int .i64)] (trie_node_below.ann R) 21 Try.ntmps53 [.tmp 2] (by kernel_rfl) (Nat.le_of_ble_eq_true (by kernel_rfl)) ?_ ?_
  · exact ⟨trivial, ⟨trivial, ⟨⟨trivial, (fun k1 => ⟨fun s w h => Eq.mp (by kernel_rfl) h, ⟨trivial, ⟨⟨trivial, trivial⟩, ⟨trivial, trivial⟩⟩⟩⟩)⟩, ⟨trivial, trivial⟩⟩⟩⟩
  · exact Eq.mp (show trie_node_below.M R n_0 w = _ by kernel_rfl) h

noncomputable def trie_Trie_All_1.body : Code := (Try.f65.body).getD .skip
def trie_Trie_All_1.b1 (R : Ending → World → Prop) (k1 : (Value × Sl × Int × Int × Unit) → World → Prop) (yield_0 : Value) (t5 : Sl) (t6 : Int) (t7 : Int) (w : World) : Prop :=
  Cd (decide (t7 < t6)) (Pu Try.prog (Instr.indexAt 45 (.slice t5.base t5.len t5.cap) (.int .i64 t7)) (.one (.at .addr)) (fun (x3 : Addr) w4 =>
  Rd Try.prog (Instr.loadAt 29 (.pointer (some x3))) (.one (.at .sl)) (fun (x5 : Sl) w6 =>
  Wr Try.prog (Builtin.append_ #[29, 29] 29 #[(.slice none 0 0), (.slice x5.base x5.len x5.cap)]) (.one (.at .sl)) (fun (x7 : Sl) w8 =>
  Nx Try.prog (do let d ← Deferred.ofValue yield_0 #[(.slice x7.base x7.len x7.cap)]; invoke d.target d.args) (.one (.at .bool)) (fun (x9 : Bool) w10 =>
  Cd (!x9) (R (.returned (.tuple #[])) w10) (k1 (yield_0, t5, t6, (IntKind.wrap .i64 (t7 + 1)), ()) w10)) w8) w6) w4) w) (R (.returned (.tuple #[])) w)
def trie_Trie_All_1.l1 (R : Ending → World → Prop) : (Value × Sl × Int × Int × Unit) → World → Prop := loopW (fun k1 s w => trie_Trie_All_1.b1 R k1 s.1 s.2.1 s.2.2.1 s.2.2.2.1 w)
def trie_Trie_All_1.M (R : Ending → World → Prop) (yield_0 : Value) (free_t1 : Addr) (w : World) : Prop :=
  Rd Try.prog (Instr.loadAt 45 (.pointer (some free_t1))) (.one (.at .sl)) (fun (x1 : Sl) w2 =>
  trie_Trie_All_1.l1 R (yield_0, x1, ((x1.len : Nat) : Int), 0, ()) w2) w
noncomputable def trie_Trie_All_1.ann (R : Ending → World → Prop) : Ann :=
  .seq (.reg (.op 0 (.rd (.one (.at .sl))) (.op 1 .now (.op 2 .now (.done))))) (.block (.loop [(0, .at .any), (5, .at .sl), (6, .at (.int .i64)), (7, .at (.int .i64))] (fun k1 s w => trie_Trie_All_1.b1 R k1 s.1 s.2.1 s.2.2.1 s.2.2.2.1 w) (fun k1 => .seq (.reg (.op 0 .now (.done))) (.seq (.cond (.leaf) (.leaf)) (.seq (.block (.seq (.reg (.op 0 (.pu (.one (.at .addr))) (.op 1 (.rd (.one (.at .sl))) (.op 2 .now (.done))))) (.seq (.reg (.op 0 .now (.op 1 .now (.op 2 (.wr (.one (.at .sl))) (.op 3 (.nx (.one (.at .bool))) (.op 4 .now (.done))))))) (.cond (.leaf) (.leaf))))) (.reg (.op 0 .now (.op 1 .now (.done)))))))))
theorem trie_Trie_All_1.run (R : Ending → World → Prop) (yield_0 : Value) (free_t1 : Addr) (w : World) (h : trie_Trie_All_1.M R yield_0 free_t1 w) : Calls Try.prog 65 #[yield_0, (.pointer (some free_t1))] w R := by
  refine calls_of_lift mix_eq Try.func65 (c := trie_Trie_All_1.body) (by kernel_rfl) [] (trie_Trie_All_1.ann R) 17 Try.ntmps65 [] (by kernel_rfl) (Nat.le_of_ble_eq_true (by kernel_rfl)) ?_ ?_
  · exact ⟨trivial, (fun k1 => ⟨fun s w h => Eq.mp (by kernel_rfl) h, ⟨trivial, ⟨⟨trivial, trivial⟩, ⟨⟨trivial, ⟨trivial, ⟨trivial, trivial⟩⟩⟩, trivial⟩⟩⟩⟩)⟩
  · exact Eq.mp (show trie_Trie_All_1.M R yield_0 free_t1 w = _ by kernel_rfl) h

end Go.Proofs.Ytdnlnloogfnlgaa
