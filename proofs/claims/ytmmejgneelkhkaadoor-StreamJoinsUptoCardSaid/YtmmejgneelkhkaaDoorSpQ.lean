/- Calls through values, and comparisons with nil. -/
import Derived.Test.YtmmejgneelkhkaaDoorSpB
set_option linter.all false
namespace Go.Proofs.YtmmejgneelkhkaaDoor
open Go Go.Cu Go.RowKit
theorem call_read (v : Value) (b : Option Addr) (n c : Nat) (w : World) : (do let d ← Deferred.ofValue (.func (.method "Read") #[.iface 52 v] #[]) #[.slice b n c]; invoke d.target d.args : Sem Next).run Tryd.prog w = .ok (.enter 94 #[v, .slice b n c]) w := by kernel_rfl
theorem call_write (v : Value) (b : Option Addr) (n c : Nat) (w : World) : (do let d ← Deferred.ofValue (.func (.method "Write") #[.iface 64 v] #[]) #[.slice b n c]; invoke d.target d.args : Sem Next).run Tryd.prog w = .ok (.enter 95 #[v, .slice b n c]) w := by kernel_rfl
theorem ne_nil_t {x y : Operand} (t : TypeId) (v : Value) (w : World) : (do eqGuard .neq 50 x y (.iface t v) .nilIface; binOp .neq 50 (.iface t v) .nilIface : Sem Value).run Tryd.prog w = .ok (.bool true) w := by kernel_rfl
theorem ne_nil_f {t : Tmp} (w : World) : (do eqGuard .neq 50 (.tmp t) (.const .nilIface) .nilIface .nilIface; binOp .neq 50 .nilIface .nilIface : Sem Value).run Tryd.prog w = .ok (.bool false) w := by kernel_rfl
theorem eq_nil_t {t : Tmp} (w : World) : (do eqGuard .eql 50 (.tmp t) (.const .nilIface) .nilIface .nilIface; binOp .eql 50 .nilIface .nilIface : Sem Value).run Tryd.prog w = .ok (.bool true) w := by kernel_rfl
theorem eq_nil_f {x y : Operand} (t : TypeId) (v : Value) (w : World) : (do eqGuard .eql 50 x y (.iface t v) .nilIface; binOp .eql 50 (.iface t v) .nilIface : Sem Value).run Tryd.prog w = .ok (.bool false) w := by kernel_rfl
theorem eq_nil_r {x y : Operand} (t : TypeId) (v : Value) (w : World) : (do eqGuard .eql 171 x y (.iface t v) .nilIface; binOp .eql 171 (.iface t v) .nilIface : Sem Value).run Tryd.prog w = .ok (.bool false) w := by kernel_rfl
theorem eq_nil_w {x y : Operand} (t : TypeId) (v : Value) (w : World) : (do eqGuard .eql 175 x y (.iface t v) .nilIface; binOp .eql 175 (.iface t v) .nilIface : Sem Value).run Tryd.prog w = .ok (.bool false) w := by kernel_rfl
theorem Nx_read {g n c : Nat} {b : Option Addr} {d : Sh} {k : d.T → World → Prop} {w : World} (h : Cl Tryd.prog 94 #[.pointer (at0 g), .slice b n c] d k w) :
    Nx Tryd.prog (do let d ← Deferred.ofValue (.func (.method "Read") #[.iface 52 (.pointer (at0 g))] #[]) #[.slice b n c]; invoke d.target d.args) d k w := .inr (.inl ⟨_, _, _, call_read _ _ _ _ w, h⟩)
theorem Nx_write {g n c : Nat} {b : Option Addr} {d : Sh} {k : d.T → World → Prop} {w : World} (h : Cl Tryd.prog 95 #[.pointer (at0 g), .slice b n c] d k w) :
    Nx Tryd.prog (do let d ← Deferred.ofValue (.func (.method "Write") #[.iface 64 (.pointer (at0 g))] #[]) #[.slice b n c]; invoke d.target d.args) d k w := .inr (.inl ⟨_, _, _, call_write _ _ _ _ w, h⟩)
theorem Nx_nilAny {t : TypeId} {v : Value} {k : Value → World → Prop} {w : World} (h : k (.iface t v) w) : Nx Tryd.prog (nilAny (.iface t v)) (.one (.at .any)) k w := .inl ⟨_, _, rfl, h⟩
end Go.Proofs.YtmmejgneelkhkaaDoor
