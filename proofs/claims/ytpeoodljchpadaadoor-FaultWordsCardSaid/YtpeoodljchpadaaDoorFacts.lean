/-
  Closed facts on the model's entries for reflectlite and on type assertions, at this translation's numbers. No conditions.
-/
import Derived.Test.YtpeoodljchpadaaDoorProg
import Derived.WalkKit
import Derived.LaidEql
import Derived.Stop.Asserts
import Derived.RowKitTokens
namespace Go.Proofs.YtpeoodljchpadaaDoor
open Go.RowKit Go.Extern.Stop Go.Stop Go.Extern

abbrev hdl (t : Nat) : Value := .pointer (some ⟨1, t, none⟩)
abbrev rty (t : Nat) : Value := .iface 73 (.agg #[hdl t])
abbrev rv (t : Nat) (a : Addr) (f : Int) : Value := .agg #[hdl t, .pointer (some a), .int .u64 f]

/-! pointer targets -/
theorem valueOf53 (t : Addr) (w : World) : (ReflectliteValue.unpack (.iface 53 (.pointer (some t)))).run Tryd.prog w
    = .ok (rv 53 ⟨w.heap.size, 0, none⟩ 150) (w.alloc (.cells #[.pointer (some t)] 53)) := by kernel_rfl
theorem valueOf56 (t : Addr) (w : World) : (ReflectliteValue.unpack (.iface 56 (.pointer (some t)))).run Tryd.prog w
    = .ok (rv 56 ⟨w.heap.size, 0, none⟩ 150) (w.alloc (.cells #[.pointer (some t)] 56)) := by kernel_rfl
theorem valueOf35 (c a : Int) (w : World) : (ReflectliteValue.unpack (.iface 35 (.agg #[.int .i64 c, .int .i64 a]))).run Tryd.prog w
    = .ok (rv 35 ⟨w.heap.size, 0, none⟩ 153) (w.alloc (.cells #[.int .i64 c, .int .i64 a] 35)) := by kernel_rfl
theorem valueOf33 (c : Int) (w : World) : (ReflectliteValue.unpack (.iface 33 (.int .i64 c))).run Tryd.prog w
    = .ok (rv 33 ⟨w.heap.size, 0, none⟩ 130) (w.alloc (.cells #[.int .i64 c] 33)) := by kernel_rfl
theorem type53 (a : Addr) (w : World) : (ReflectliteValue.methodAny (ReflectliteValue.valueError "reflectlite.Value.Type" 0) (fun t _ _ _ => ReflectliteType.toType t) #[rv 53 a 150]).run Tryd.prog w = .ok (rty 53) w := by kernel_rfl
theorem type56 (a : Addr) (w : World) : (ReflectliteValue.methodAny (ReflectliteValue.valueError "reflectlite.Value.Type" 0) (fun t _ _ _ => ReflectliteType.toType t) #[rv 56 a 150]).run Tryd.prog w = .ok (rty 56) w := by kernel_rfl
theorem methodKind (h : Value) (w : World) : (Go.method 216 73 (.agg #[h]) "Kind").run Tryd.prog w = .ok (47, h) w := by kernel_rfl
theorem methodElem (h : Value) (w : World) : (Go.method 216 73 (.agg #[h]) "Elem").run Tryd.prog w = .ok (59, .agg #[h]) w := by kernel_rfl
theorem methodImplements (h : Value) (w : World) : (Go.method 216 73 (.agg #[h]) "Implements").run Tryd.prog w = .ok (60, .agg #[h]) w := by kernel_rfl
theorem methodAssignableTo (h : Value) (w : World) : (Go.method 216 73 (.agg #[h]) "AssignableTo").run Tryd.prog w = .ok (57, .agg #[h]) w := by kernel_rfl
theorem methodComparable (h : Value) (w : World) : (Go.method 216 73 (.agg #[h]) "Comparable").run Tryd.prog w = .ok (58, .agg #[h]) w := by kernel_rfl
theorem kind53 (w : World) : ((ReflectliteType.abiMethod fun t => (fun a : Nat => Value.int IntKind.u8 (a : Int)) <$> Rtype.kind t) #[hdl 53]).run Tryd.prog w = .ok (.int .u8 22) w := by kernel_rfl
theorem kind56 (w : World) : ((ReflectliteType.abiMethod fun t => (fun a : Nat => Value.int IntKind.u8 (a : Int)) <$> Rtype.kind t) #[hdl 56]).run Tryd.prog w = .ok (.int .u8 22) w := by kernel_rfl
theorem kind35 (w : World) : ((ReflectliteType.abiMethod fun t => (fun a : Nat => Value.int IntKind.u8 (a : Int)) <$> Rtype.kind t) #[hdl 35]).run Tryd.prog w = .ok (.int .u8 25) w := by kernel_rfl
theorem kind33 (w : World) : ((ReflectliteType.abiMethod fun t => (fun a : Nat => Value.int IntKind.u8 (a : Int)) <$> Rtype.kind t) #[hdl 33]).run Tryd.prog w = .ok (.int .u8 2) w := by kernel_rfl
theorem elem53 (w : World) : (ReflectliteType.method ReflectliteType.elem #[.agg #[hdl 53]]).run Tryd.prog w = .ok (rty 35) w := by kernel_rfl
theorem elem56 (w : World) : (ReflectliteType.method ReflectliteType.elem #[.agg #[hdl 56]]).run Tryd.prog w = .ok (rty 33) w := by kernel_rfl
theorem implements35 (w : World) : (ReflectliteType.relation "Implements" ReflectliteType.implements_ #[.agg #[hdl 35], rty 38]).run Tryd.prog w = .ok (.bool true) w := by kernel_rfl
theorem implements33 (w : World) : (ReflectliteType.relation "Implements" ReflectliteType.implements_ #[.agg #[hdl 33], rty 38]).run Tryd.prog w = .ok (.bool true) w := by kernel_rfl
theorem typeOf (t : Nat) (v : Value) (ht : t = 47 ∨ t = 35 ∨ t = 33) (w : World) : (ReflectliteType.typeOf #[.iface t v]).run Tryd.prog w = .ok (rty t) w := by
  rcases ht with rfl | rfl | rfl
  · kernel_rfl
  · kernel_rfl
  · kernel_rfl
theorem asg (s d : Nat) (b : Bool) (h : (s, d, b) ∈ [(47, 35, false), (47, 33, false), (35, 35, true), (35, 33, false), (33, 33, true), (33, 35, false)]) (w : World) :
    (ReflectliteType.relation "AssignableTo" ReflectliteType.assignableTo #[.agg #[hdl s], rty d]).run Tryd.prog w = .ok (.bool b) w := by
  simp only [List.mem_cons, Prod.mk.injEq, List.not_mem_nil, or_false] at h
  rcases h with ⟨rfl, rfl, rfl⟩ | ⟨rfl, rfl, rfl⟩ | ⟨rfl, rfl, rfl⟩ | ⟨rfl, rfl, rfl⟩ | ⟨rfl, rfl, rfl⟩ | ⟨rfl, rfl, rfl⟩
  · kernel_rfl
  · kernel_rfl
  · kernel_rfl
  · kernel_rfl
  · kernel_rfl
  · kernel_rfl
theorem cmp33 (w : World) : (ReflectliteType.abiMethod (fun _ => pure (.bool true)) #[hdl 33]).run Tryd.prog w = .ok (.bool true) w := by kernel_rfl

/-! type assertions to the interfaces with As, Is, Unwrap -/
theorem noAs (t : Nat) (v : Value) (ht : t = 47 ∨ t = 35 ∨ t = 33) (w : World) : (Instr.typeAssert (.iface t v) 38 77 true).run Tryd.prog w = .ok (.tuple #[.nilIface, .bool false]) w := by
  rcases ht with rfl | rfl | rfl
  · exact run_typeAssert_lacksB Tryd.underlying77 (by kernel_rfl) (by kernel_rfl) v 38 w
  · exact run_typeAssert_lacksB Tryd.underlying77 (by kernel_rfl) (by kernel_rfl) v 38 w
  · exact run_typeAssert_lacksB Tryd.underlying77 (by kernel_rfl) (by kernel_rfl) v 38 w
theorem noIs (t : Nat) (v : Value) (ht : t = 47 ∨ t = 35 ∨ t = 33) (w : World) : (Instr.typeAssert (.iface t v) 38 84 true).run Tryd.prog w = .ok (.tuple #[.nilIface, .bool false]) w := by
  rcases ht with rfl | rfl | rfl
  · exact run_typeAssert_lacksB Tryd.underlying84 (by kernel_rfl) (by kernel_rfl) v 38 w
  · exact run_typeAssert_lacksB Tryd.underlying84 (by kernel_rfl) (by kernel_rfl) v 38 w
  · exact run_typeAssert_lacksB Tryd.underlying84 (by kernel_rfl) (by kernel_rfl) v 38 w
theorem hasUn (t : Nat) (v : Value) (ht : t = 47 ∨ t = 35) (w : World) : (Instr.typeAssert (.iface t v) 38 80 true).run Tryd.prog w = .ok (.tuple #[.iface t v, .bool true]) w := by
  rcases ht with rfl | rfl
  · exact run_typeAssert_hasB Tryd.underlying80 (by kernel_rfl) v 38 w
  · exact run_typeAssert_hasB Tryd.underlying80 (by kernel_rfl) v 38 w
theorem noUn (v : Value) (w : World) : (Instr.typeAssert (.iface 33 v) 38 80 true).run Tryd.prog w = .ok (.tuple #[.nilIface, .bool false]) w :=
  run_typeAssert_lacksB Tryd.underlying80 (by kernel_rfl) (by kernel_rfl) v 38 w
theorem noUns (v : Value) (w : World) : (Instr.typeAssert (.iface 33 v) 38 81 true).run Tryd.prog w = .ok (.tuple #[.nilIface, .bool false]) w :=
  run_typeAssert_lacksB Tryd.underlying81 (by kernel_rfl) (by kernel_rfl) v 38 w
theorem methodUn47 (a b c : Value) (w : World) : (Go.method 216 47 (.agg #[a, b, c]) "Unwrap").run Tryd.prog w = .ok (19, .agg #[a, b, c]) w := by kernel_rfl
theorem methodUn35 (a b : Value) (w : World) : (Go.method 216 35 (.agg #[a, b]) "Unwrap").run Tryd.prog w = .ok (52, .agg #[a, b]) w := by kernel_rfl

/-! the entries that read or write memory -/
theorem rlm (z : Sem Value) (f : TypeId → Addr → Nat → Nat → Sem Value) (v : Value) :
    ReflectliteValue.method z f #[v] = (do match ← ReflectliteValue.parts v with | none => z | some (t, a, fl) => f t a fl (fl % 32)) := rfl
theorem parts53 (a : Addr) (w : World) : (ReflectliteValue.parts (rv 53 a 150)).run Tryd.prog w = .ok (some (53, a, 150)) w := by kernel_rfl
theorem parts56 (a : Addr) (w : World) : (ReflectliteValue.parts (rv 56 a 150)).run Tryd.prog w = .ok (some (56, a, 150)) w := by kernel_rfl
theorem isNil53 (a p : Addr) (W : World) (ha : W.cell? a = some (.pointer (some p))) :
    (ReflectliteValue.method (ReflectliteValue.valueError "reflectlite.Value.IsNil" 0) ReflectliteValue.isNil #[rv 53 a 150]).run Tryd.prog W = .ok (.bool false) W := by
  rw [rlm]
  simp only [Sem.run_bind, parts53, Result.andThen]
  simp [ReflectliteValue.isNil, loadVar, isAgg, underlying, Tryd.underlying53, ha, Result.andThen]
theorem isNil56 (a p : Addr) (W : World) (ha : W.cell? a = some (.pointer (some p))) :
    (ReflectliteValue.method (ReflectliteValue.valueError "reflectlite.Value.IsNil" 0) ReflectliteValue.isNil #[rv 56 a 150]).run Tryd.prog W = .ok (.bool false) W := by
  rw [rlm]
  simp only [Sem.run_bind, parts56, Result.andThen]
  simp [ReflectliteValue.isNil, loadVar, isAgg, underlying, Tryd.underlying56, ha, Result.andThen]
theorem elemOf53 (w : World) : (Rtype.elem? 53).run Tryd.prog w = .ok (some 35) w := by kernel_rfl
theorem elemOf56 (w : World) : (Rtype.elem? 56).run Tryd.prog w = .ok (some 33) w := by kernel_rfl
theorem mk35 (p : Addr) (w : World) : (ReflectliteValue.mk 35 p ReflectliteValue.flagAddr).run Tryd.prog w = .ok (rv 35 p 409) w := by kernel_rfl
theorem mk33 (p : Addr) (w : World) : (ReflectliteValue.mk 33 p ReflectliteValue.flagAddr).run Tryd.prog w = .ok (rv 33 p 386) w := by kernel_rfl
theorem elemV53 (a p : Addr) (W : World) (ha : W.cell? a = some (.pointer (some p))) :
    (ReflectliteValue.method (ReflectliteValue.valueError "reflectlite.Value.Elem" 0) ReflectliteValue.elem #[rv 53 a 150]).run Tryd.prog W = .ok (rv 35 p 409) W := by
  rw [rlm]
  simp only [Sem.run_bind, parts53, Result.andThen]
  simp [ReflectliteValue.elem, loadVar, isAgg, underlying, Tryd.underlying53, ha, Result.andThen, elemOf53, mk35]
theorem elemV56 (a p : Addr) (W : World) (ha : W.cell? a = some (.pointer (some p))) :
    (ReflectliteValue.method (ReflectliteValue.valueError "reflectlite.Value.Elem" 0) ReflectliteValue.elem #[rv 56 a 150]).run Tryd.prog W = .ok (rv 33 p 386) W := by
  rw [rlm]
  simp only [Sem.run_bind, parts56, Result.andThen]
  simp [ReflectliteValue.elem, loadVar, isAgg, underlying, Tryd.underlying56, ha, Result.andThen, elemOf56, mk33]
end Go.Proofs.YtpeoodljchpadaaDoor
