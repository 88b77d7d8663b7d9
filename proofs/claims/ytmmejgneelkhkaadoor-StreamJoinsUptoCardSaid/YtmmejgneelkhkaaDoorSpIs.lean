/- errors.Is over what sources and sinks answer (after the kit's worked example). -/
import Derived.Test.YtmmejgneelkhkaaDoorChecked
import Derived.WalkKit
import Derived.LaidEql
import Derived.Stop.Asserts
import Derived.RowKitTokens
set_option linter.all false
namespace Go.Proofs.YtmmejgneelkhkaaDoor
open Go.RowKit Go.Extern.Stop Go.Stop Go.Extern
def cmpM : Array Value → Sem Value := Extern.ReflectliteType.method fun t => do Extern.Rtype.noPackHeld "Comparable" t; pure (.bool (← typeInfo t).comparable)
theorem isTypeOfE (v : Value) (w : World) : (Extern.ReflectliteType.typeOf #[.iface 202 v]).run Tryd.prog w = .ok (.iface 177 (.agg #[.pointer (some ⟨1, 202, none⟩)])) w := by kernel_rfl
theorem isComparableE (w : World) : (cmpM #[.agg #[.pointer (some ⟨1, 202, none⟩)]]).run Tryd.prog w = .ok (.bool true) w := by kernel_rfl
theorem isTypeOfB (v : Value) (w : World) : (Extern.ReflectliteType.typeOf #[.iface 88 v]).run Tryd.prog w = .ok (.iface 177 (.agg #[.pointer (some ⟨1, 88, none⟩)])) w := by kernel_rfl
theorem isComparableB (w : World) : (cmpM #[.agg #[.pointer (some ⟨1, 88, none⟩)]]).run Tryd.prog w = .ok (.bool true) w := by kernel_rfl
theorem isMethod (v : Value) (w : World) : (Go.method 348 177 v "Comparable").run Tryd.prog w = .ok (103, v) w := by kernel_rfl
theorem isCompE : (Tryd.prog.info? 202).map (·.comparable) = some true := by kernel_rfl
theorem isCompB : (Tryd.prog.info? 88).map (·.comparable) = some true := by kernel_rfl
theorem isSizeE : (Tryd.prog.info? 233).map (·.size) = some 1 := by kernel_rfl
theorem isSizeB : (Tryd.prog.info? 144).map (·.size) = some 1 := by kernel_rfl
theorem noIsB (v : Value) (xT : TypeId) (w : World) : (Instr.typeAssert (.iface 88 v) xT 179 true).run Tryd.prog w = .ok (.tuple #[.nilIface, .bool false]) w := run_typeAssert_lacksB Tryd.underlying179 (by kernel_rfl) (by kernel_rfl) v xT w
theorem noUnB (v : Value) (xT : TypeId) (w : World) : (Instr.typeAssert (.iface 88 v) xT 182 true).run Tryd.prog w = .ok (.tuple #[.nilIface, .bool false]) w := run_typeAssert_lacksB Tryd.underlying182 (by kernel_rfl) (by kernel_rfl) v xT w
theorem noUnsB (v : Value) (xT : TypeId) (w : World) : (Instr.typeAssert (.iface 88 v) xT 183 true).run Tryd.prog w = .ok (.tuple #[.nilIface, .bool false]) w := run_typeAssert_lacksB Tryd.underlying183 (by kernel_rfl) (by kernel_rfl) v xT w
theorem noIsN (v : Value) (xT : TypeId) (w : World) : (Instr.typeAssert (.iface 74 v) xT 179 true).run Tryd.prog w = .ok (.tuple #[.nilIface, .bool false]) w := run_typeAssert_lacksB Tryd.underlying179 (by kernel_rfl) (by kernel_rfl) v xT w
theorem noUnN (v : Value) (xT : TypeId) (w : World) : (Instr.typeAssert (.iface 74 v) xT 182 true).run Tryd.prog w = .ok (.tuple #[.nilIface, .bool false]) w := run_typeAssert_lacksB Tryd.underlying182 (by kernel_rfl) (by kernel_rfl) v xT w
theorem noUnsN (v : Value) (xT : TypeId) (w : World) : (Instr.typeAssert (.iface 74 v) xT 183 true).run Tryd.prog w = .ok (.tuple #[.nilIface, .bool false]) w := run_typeAssert_lacksB Tryd.underlying183 (by kernel_rfl) (by kernel_rfl) v xT w
/-- errors.Is(End, End) -/
theorem is_end (a : Addr) (w : World) : Calls Tryd.prog 35 #[.iface 202 (.pointer (some a)), .iface 202 (.pointer (some a))] w fun e w' => e = .returned (.bool true) ∧ w' = w := by
  obtain ⟨i, hi, hcmp⟩ := Option.map_eq_some_iff.1 isCompE
  obtain ⟨j, hj, hjs⟩ := Option.map_eq_some_iff.1 isSizeE
  have h8 := @run_callFunc_extern Tryd.prog 54 _ Extern.ReflectliteType.typeOf Tryd.func54 (by kernel_rfl) (by kernel_rfl) (by kernel_rfl) (by kernel_rfl)
  have h32 := @run_callFunc_extern Tryd.prog 103 _ cmpM Tryd.func103 (by kernel_rfl) (by kernel_rfl) (by kernel_rfl) (by kernel_rfl)
  have tT := isTypeOfE
  have cT := isComparableE
  have mR := isMethod
  have heq := run_eql_iface_ptr_same (P := Tryd.prog) w a Tryd.underlying50 Tryd.underlying202 hi hcmp hj
  go_enter Tryd.func35, Tryd.ntmps35
  go_wp2
  refine wp_loop_rounds 1 ?_
  rw [rounds_succ]
  go_wp2
  go_ret
  exact ⟨rfl, rfl⟩
/-- errors.Is(a failure, the same one) -/
theorem is_broken (a : Addr) (w : World) : Calls Tryd.prog 35 #[.iface 88 (.pointer (some a)), .iface 88 (.pointer (some a))] w fun e w' => e = .returned (.bool true) ∧ w' = w := by
  obtain ⟨i, hi, hcmp⟩ := Option.map_eq_some_iff.1 isCompB
  obtain ⟨j, hj, hjs⟩ := Option.map_eq_some_iff.1 isSizeB
  have h8 := @run_callFunc_extern Tryd.prog 54 _ Extern.ReflectliteType.typeOf Tryd.func54 (by kernel_rfl) (by kernel_rfl) (by kernel_rfl) (by kernel_rfl)
  have h32 := @run_callFunc_extern Tryd.prog 103 _ cmpM Tryd.func103 (by kernel_rfl) (by kernel_rfl) (by kernel_rfl) (by kernel_rfl)
  have tT := isTypeOfB
  have cT := isComparableB
  have mR := isMethod
  have heq := run_eql_iface_ptr_same (P := Tryd.prog) w a Tryd.underlying50 Tryd.underlying88 hi hcmp hj
  go_enter Tryd.func35, Tryd.ntmps35
  go_wp2
  refine wp_loop_rounds 1 ?_
  rw [rounds_succ]
  go_wp2
  go_ret
  exact ⟨rfl, rfl⟩
/-- errors.Is(nil, End) -/
theorem is_nil (b : Addr) (w : World) : Calls Tryd.prog 35 #[.nilIface, .iface 202 (.pointer (some b))] w fun e w' => e = .returned (.bool false) ∧ w' = w := by
  have hn := run_eql_iface_nil_left (P := Tryd.prog) w 202 (.pointer (some b)) Tryd.underlying50
  go_enter Tryd.func35, Tryd.ntmps35
  go_wp2
  go_ret
  exact ⟨rfl, rfl⟩
/-- errors.Is(a failure, End) -/
theorem is_broken_end (a b : Addr) (w : World) : Calls Tryd.prog 35 #[.iface 88 (.pointer (some a)), .iface 202 (.pointer (some b))] w fun e w' => e = .returned (.bool false) ∧ w' = w := by
  have h8 := @run_callFunc_extern Tryd.prog 54 _ Extern.ReflectliteType.typeOf Tryd.func54 (by kernel_rfl) (by kernel_rfl) (by kernel_rfl) (by kernel_rfl)
  have h32 := @run_callFunc_extern Tryd.prog 103 _ cmpM Tryd.func103 (by kernel_rfl) (by kernel_rfl) (by kernel_rfl) (by kernel_rfl)
  have tT := isTypeOfE
  have cT := isComparableE
  have mR := isMethod
  have nW := noIsB
  have uW := noUnB
  have vW := noUnsB
  have hty := run_eql_iface_types (P := Tryd.prog) 88 202 (.pointer (some a)) (.pointer (some b)) Tryd.underlying50 (by decide) w
  go_enter Tryd.func35, Tryd.ntmps35
  go_wp2
  refine wp_loop_rounds 1 ?_
  rw [rounds_succ]
  go_wp2
  go_ret
  exact ⟨rfl, rfl⟩
/-- errors.Is(an error's number, End) -/
theorem is_no_end (n : Int) (b : Addr) (w : World) : Calls Tryd.prog 35 #[.iface 74 (.int .i64 n), .iface 202 (.pointer (some b))] w fun e w' => e = .returned (.bool false) ∧ w' = w := by
  have h8 := @run_callFunc_extern Tryd.prog 54 _ Extern.ReflectliteType.typeOf Tryd.func54 (by kernel_rfl) (by kernel_rfl) (by kernel_rfl) (by kernel_rfl)
  have h32 := @run_callFunc_extern Tryd.prog 103 _ cmpM Tryd.func103 (by kernel_rfl) (by kernel_rfl) (by kernel_rfl) (by kernel_rfl)
  have tT := isTypeOfE
  have cT := isComparableE
  have mR := isMethod
  have nW := noIsN
  have uW := noUnN
  have vW := noUnsN
  have hty := run_eql_iface_types (P := Tryd.prog) 74 202 (.int .i64 n) (.pointer (some b)) Tryd.underlying50 (by decide) w
  go_enter Tryd.func35, Tryd.ntmps35
  go_wp2
  refine wp_loop_rounds 1 ?_
  rw [rounds_succ]
  go_wp2
  go_ret
  exact ⟨rfl, rfl⟩
end Go.Proofs.YtmmejgneelkhkaaDoor
