import Derived.Test.YtjffhomcgpigpaaDoorB2
import Derived.WalkKit
import Derived.LaidEql
import Derived.Stop.Asserts
import Derived.RowKitTokens
/- errors.As at a fault: closed facts on the entries of internal/reflectlite (after the worked text ToyasAs). 70: *Fault, 71: **Fault, 46: Code, 69: *Code, 43: error, 101: rtype. -/
namespace Go.Proofs.YtjffhomcgpigpaaDoor
open E Go.RowKit Go.Extern.Stop Go.Stop Go.Extern
set_option maxRecDepth 100000
abbrev ty (t : Nat) : Value := .pointer (some ⟨1, t, none⟩)
theorem valueOf71 (t : Addr) (w : World) : (ReflectliteValue.unpack (.iface 71 (.pointer (some t)))).run Tryd.prog w = .ok (.agg #[ty 71, .pointer (some ⟨w.heap.size, 0, none⟩), .int .u64 150]) (w.alloc (.cells #[.pointer (some t)] 71)) := by kernel_rfl
theorem valueOf69 (t : Addr) (w : World) : (ReflectliteValue.unpack (.iface 69 (.pointer (some t)))).run Tryd.prog w = .ok (.agg #[ty 69, .pointer (some ⟨w.heap.size, 0, none⟩), .int .u64 150]) (w.alloc (.cells #[.pointer (some t)] 69)) := by kernel_rfl
theorem valueOf70 (t : Addr) (w : World) : (ReflectliteValue.unpack (.iface 70 (.pointer (some t)))).run Tryd.prog w = .ok (.agg #[ty 70, .pointer (some ⟨w.heap.size, 0, none⟩), .int .u64 150]) (w.alloc (.cells #[.pointer (some t)] 70)) := by kernel_rfl
theorem valueOf46 (n : Int) (w : World) : (ReflectliteValue.unpack (.iface 46 (.int .i64 n))).run Tryd.prog w = .ok (.agg #[ty 46, .pointer (some ⟨w.heap.size, 0, none⟩), .int .u64 130]) (w.alloc (.cells #[.int .i64 n] 46)) := by kernel_rfl
theorem type71 (a : Addr) (w : World) : (ReflectliteValue.methodAny (ReflectliteValue.valueError "reflectlite.Value.Type" 0) (fun t _ _ _ => ReflectliteType.toType t) #[.agg #[ty 71, .pointer (some a), .int .u64 150]]).run Tryd.prog w = .ok (.iface 101 (.agg #[ty 71])) w := by kernel_rfl
theorem type69 (a : Addr) (w : World) : (ReflectliteValue.methodAny (ReflectliteValue.valueError "reflectlite.Value.Type" 0) (fun t _ _ _ => ReflectliteType.toType t) #[.agg #[ty 69, .pointer (some a), .int .u64 150]]).run Tryd.prog w = .ok (.iface 101 (.agg #[ty 69])) w := by kernel_rfl
theorem kind71 (w : World) : ((ReflectliteType.abiMethod fun t => (fun a : Nat => Value.int IntKind.u8 (a : Int)) <$> Rtype.kind t) #[ty 71]).run Tryd.prog w = .ok (.int .u8 22) w := by kernel_rfl
theorem kind70 (w : World) : ((ReflectliteType.abiMethod fun t => (fun a : Nat => Value.int IntKind.u8 (a : Int)) <$> Rtype.kind t) #[ty 70]).run Tryd.prog w = .ok (.int .u8 22) w := by kernel_rfl
theorem kind69 (w : World) : ((ReflectliteType.abiMethod fun t => (fun a : Nat => Value.int IntKind.u8 (a : Int)) <$> Rtype.kind t) #[ty 69]).run Tryd.prog w = .ok (.int .u8 22) w := by kernel_rfl
theorem kind46 (w : World) : ((ReflectliteType.abiMethod fun t => (fun a : Nat => Value.int IntKind.u8 (a : Int)) <$> Rtype.kind t) #[ty 46]).run Tryd.prog w = .ok (.int .u8 2) w := by kernel_rfl
theorem elem71 (w : World) : (ReflectliteType.method ReflectliteType.elem #[.agg #[ty 71]]).run Tryd.prog w = .ok (.iface 101 (.agg #[ty 70])) w := by kernel_rfl
theorem elem69 (w : World) : (ReflectliteType.method ReflectliteType.elem #[.agg #[ty 69]]).run Tryd.prog w = .ok (.iface 101 (.agg #[ty 46])) w := by kernel_rfl
theorem implements70 (w : World) : (ReflectliteType.relation "Implements" ReflectliteType.implements_ #[.agg #[ty 70], .iface 101 (.agg #[ty 43])]).run Tryd.prog w = .ok (.bool true) w := by kernel_rfl
theorem implements46 (w : World) : (ReflectliteType.relation "Implements" ReflectliteType.implements_ #[.agg #[ty 46], .iface 101 (.agg #[ty 43])]).run Tryd.prog w = .ok (.bool true) w := by kernel_rfl
theorem typeOf70 (v : Value) (w : World) : (ReflectliteType.typeOf #[.iface 70 v]).run Tryd.prog w = .ok (.iface 101 (.agg #[ty 70])) w := by kernel_rfl
theorem typeOf46 (v : Value) (w : World) : (ReflectliteType.typeOf #[.iface 46 v]).run Tryd.prog w = .ok (.iface 101 (.agg #[ty 46])) w := by kernel_rfl
theorem assign70 (w : World) : (ReflectliteType.relation "AssignableTo" ReflectliteType.assignableTo #[.agg #[ty 70], .iface 101 (.agg #[ty 70])]).run Tryd.prog w = .ok (.bool true) w := by kernel_rfl
theorem assign46 (w : World) : (ReflectliteType.relation "AssignableTo" ReflectliteType.assignableTo #[.agg #[ty 46], .iface 101 (.agg #[ty 46])]).run Tryd.prog w = .ok (.bool true) w := by kernel_rfl
theorem assign7046 (w : World) : (ReflectliteType.relation "AssignableTo" ReflectliteType.assignableTo #[.agg #[ty 70], .iface 101 (.agg #[ty 46])]).run Tryd.prog w = .ok (.bool false) w := by kernel_rfl
theorem parts71 (a : Addr) (w : World) : (ReflectliteValue.parts (.agg #[ty 71, .pointer (some a), .int .u64 150])).run Tryd.prog w = .ok (some (71, a, 150)) w := by kernel_rfl
theorem parts69 (a : Addr) (w : World) : (ReflectliteValue.parts (.agg #[ty 69, .pointer (some a), .int .u64 150])).run Tryd.prog w = .ok (some (69, a, 150)) w := by kernel_rfl
theorem parts70 (a : Addr) (w : World) : (ReflectliteValue.parts (.agg #[ty 70, .pointer (some a), .int .u64 150])).run Tryd.prog w = .ok (some (70, a, 150)) w := by kernel_rfl
theorem parts70a (a : Addr) (w : World) : (ReflectliteValue.parts (.agg #[ty 70, .pointer (some a), .int .u64 406])).run Tryd.prog w = .ok (some (70, a, 406)) w := by kernel_rfl
theorem parts46 (a : Addr) (w : World) : (ReflectliteValue.parts (.agg #[ty 46, .pointer (some a), .int .u64 130])).run Tryd.prog w = .ok (some (46, a, 130)) w := by kernel_rfl
theorem parts46a (a : Addr) (w : World) : (ReflectliteValue.parts (.agg #[ty 46, .pointer (some a), .int .u64 386])).run Tryd.prog w = .ok (some (46, a, 386)) w := by kernel_rfl
theorem elemOf71 (w : World) : (Rtype.elem? 71).run Tryd.prog w = .ok (some 70) w := by kernel_rfl
theorem elemOf69 (w : World) : (Rtype.elem? 69).run Tryd.prog w = .ok (some 46) w := by kernel_rfl
theorem mk70 (p : Addr) (w : World) : (ReflectliteValue.mk 70 p ReflectliteValue.flagAddr).run Tryd.prog w = .ok (.agg #[ty 70, .pointer (some p), .int .u64 406]) w := by kernel_rfl
theorem mk46 (p : Addr) (w : World) : (ReflectliteValue.mk 46 p ReflectliteValue.flagAddr).run Tryd.prog w = .ok (.agg #[ty 46, .pointer (some p), .int .u64 386]) w := by kernel_rfl
theorem direct70 (w : World) : (Rtype.directlyAssignable 70 70).run Tryd.prog w = .ok true w := by kernel_rfl
theorem direct46 (w : World) : (Rtype.directlyAssignable 46 46).run Tryd.prog w = .ok true w := by kernel_rfl
theorem size70 (w : World) : (sizeOf 70).run Tryd.prog w = .ok 1 w := by kernel_rfl
theorem size46 (w : World) : (sizeOf 46).run Tryd.prog w = .ok 1 w := by kernel_rfl
end Go.Proofs.YtjffhomcgpigpaaDoor
