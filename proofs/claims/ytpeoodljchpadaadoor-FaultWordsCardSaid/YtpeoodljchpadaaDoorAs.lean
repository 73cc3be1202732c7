/-
  What a chain of steps is as a value; errors.as at the targets *api.Fault and *api.Errno, by walks: it finds a fault (a number) at the chain's end, and nothing where there is none. Conditions: the target's block is there.
-/
import Derived.Test.YtpeoodljchpadaaDoorFacts
import Derived.Deep.LoopGhost
import Derived.WalkSpells
import Derived.WalkLawsBesides
namespace Go.Proofs.YtpeoodljchpadaaDoor
open Go.RowKit Go.Extern.Stop Go.Stop Go.Extern

/-- steps within one another, the outermost first, and what is at the end -/
def chain : List (ByteArray × Int) → Value → Value
  | [], e => e
  | p :: r, e => .iface 47 (.agg #[.string p.1, .int .i64 p.2, chain r e])
def fltV (c a : Int) : Value := .iface 35 (.agg #[.int .i64 c, .int .i64 a])
def numV (c : Int) : Value := .iface 33 (.int .i64 c)

theorem ext25 (args : Array Value) (w : World) : (callFunc 25 args).run Tryd.prog w = ((ReflectliteValue.unpack (args.getD 0 (.tuple #[]))).run Tryd.prog w).andThen fun v w' => .ok (.value v) w' :=
  run_callFunc_extern (e := fun args => ReflectliteValue.unpack (args.getD 0 (.tuple #[]))) Tryd.func25 (by kernel_rfl) (by kernel_rfl) (by kernel_rfl) (by kernel_rfl) args w
theorem ext26 (args : Array Value) (w : World) : (callFunc 26 args).run Tryd.prog w = (((ReflectliteValue.methodAny (ReflectliteValue.valueError "reflectlite.Value.Type" 0) (fun t _ _ _ => ReflectliteType.toType t)) args).run Tryd.prog w).andThen fun v w' => .ok (.value v) w' :=
  run_callFunc_extern Tryd.func26 (by kernel_rfl) (by kernel_rfl) (by kernel_rfl) (by kernel_rfl) args w
theorem ext27 (args : Array Value) (w : World) : (callFunc 27 args).run Tryd.prog w = (((ReflectliteValue.method (ReflectliteValue.valueError "reflectlite.Value.IsNil" 0) ReflectliteValue.isNil) args).run Tryd.prog w).andThen fun v w' => .ok (.value v) w' :=
  run_callFunc_extern Tryd.func27 (by kernel_rfl) (by kernel_rfl) (by kernel_rfl) (by kernel_rfl) args w
theorem ext29 (args : Array Value) (w : World) : (callFunc 29 args).run Tryd.prog w = (((ReflectliteType.typeOf) args).run Tryd.prog w).andThen fun v w' => .ok (.value v) w' :=
  run_callFunc_extern Tryd.func29 (by kernel_rfl) (by kernel_rfl) (by kernel_rfl) (by kernel_rfl) args w
theorem ext31 (args : Array Value) (w : World) : (callFunc 31 args).run Tryd.prog w = (((ReflectliteValue.method (ReflectliteValue.valueError "reflectlite.Value.Elem" 0) ReflectliteValue.elem) args).run Tryd.prog w).andThen fun v w' => .ok (.value v) w' :=
  run_callFunc_extern Tryd.func31 (by kernel_rfl) (by kernel_rfl) (by kernel_rfl) (by kernel_rfl) args w
theorem ext32 (args : Array Value) (w : World) : (callFunc 32 args).run Tryd.prog w = (((ReflectliteValue.set) args).run Tryd.prog w).andThen fun v w' => .ok (.value v) w' :=
  run_callFunc_extern Tryd.func32 (by kernel_rfl) (by kernel_rfl) (by kernel_rfl) (by kernel_rfl) args w
theorem ext47 (args : Array Value) (w : World) : (callFunc 47 args).run Tryd.prog w = (((ReflectliteType.abiMethod fun t => do pure (.int .u8 (← Rtype.kind t))) args).run Tryd.prog w).andThen fun v w' => .ok (.value v) w' :=
  run_callFunc_extern Tryd.func47 (by kernel_rfl) (by kernel_rfl) (by kernel_rfl) (by kernel_rfl) args w
theorem ext57 (args : Array Value) (w : World) : (callFunc 57 args).run Tryd.prog w = (((ReflectliteType.relation "AssignableTo" ReflectliteType.assignableTo) args).run Tryd.prog w).andThen fun v w' => .ok (.value v) w' :=
  run_callFunc_extern Tryd.func57 (by kernel_rfl) (by kernel_rfl) (by kernel_rfl) (by kernel_rfl) args w
theorem ext59 (args : Array Value) (w : World) : (callFunc 59 args).run Tryd.prog w = (((ReflectliteType.method ReflectliteType.elem) args).run Tryd.prog w).andThen fun v w' => .ok (.value v) w' :=
  run_callFunc_extern Tryd.func59 (by kernel_rfl) (by kernel_rfl) (by kernel_rfl) (by kernel_rfl) args w
theorem ext60 (args : Array Value) (w : World) : (callFunc 60 args).run Tryd.prog w = (((ReflectliteType.relation "Implements" ReflectliteType.implements_) args).run Tryd.prog w).andThen fun v w' => .ok (.value v) w' :=
  run_callFunc_extern Tryd.func60 (by kernel_rfl) (by kernel_rfl) (by kernel_rfl) (by kernel_rfl) args w

/-! (Value).Set at the two targets -/
theorem rls (v x : Value) : ReflectliteValue.set #[v, x] = (do
    let (some (dst, a, fl), some (src, b, _)) := (← ReflectliteValue.parts v, ← ReflectliteValue.parts x)
      | unsupported (.noEntry "extern/(internal/reflectlite.Value).Set.zeroValue")
    if fl / ReflectliteValue.flagAddr % 2 == 0 then unsupported (.noEntry "extern/(internal/reflectlite.Value).Set.unaddressable")
    let val ← loadVar src b
    if ← Rtype.directlyAssignable dst src then storeVar dst a val
    else if ← Rtype.implements dst src then
      if (← Rtype.kind src) == 20 then
        match val with
        | .nilIface => unsupported (.noEntry "extern/reflectlite: a nil value of one interface type handed on as a value of another")
        | _ => storeVar dst a val
      else storeVar dst a (.iface src val)
    else panicString ("reflectlite.Set: value of type " ++ (← Rtype.spelt src) ++ " is not assignable to type " ++ (← Rtype.spelt dst))
    pure (.tuple #[])) := rfl
theorem parts35a (a : Addr) (w : World) : (ReflectliteValue.parts (rv 35 a 409)).run Tryd.prog w = .ok (some (35, a, 409)) w := by kernel_rfl
theorem parts35 (a : Addr) (w : World) : (ReflectliteValue.parts (rv 35 a 153)).run Tryd.prog w = .ok (some (35, a, 153)) w := by kernel_rfl
theorem parts33a (a : Addr) (w : World) : (ReflectliteValue.parts (rv 33 a 386)).run Tryd.prog w = .ok (some (33, a, 386)) w := by kernel_rfl
theorem parts33 (a : Addr) (w : World) : (ReflectliteValue.parts (rv 33 a 130)).run Tryd.prog w = .ok (some (33, a, 130)) w := by kernel_rfl
theorem direct35 (w : World) : (Rtype.directlyAssignable 35 35).run Tryd.prog w = .ok true w := by kernel_rfl
theorem direct33 (w : World) : (Rtype.directlyAssignable 33 33).run Tryd.prog w = .ok true w := by kernel_rfl

theorem block_cell {w : World} {b : Nat} {cs : Array Value} {t : TypeId} (h : w.heap[b]? = some (.cells cs t (0, 0))) (o : Nat) : w.cell? ⟨b, o, none⟩ = cs[o]? := by simp [World.cell?, h]
theorem block_free {w : World} {b : Nat} {cs : Array Value} {t : TypeId} (h : w.heap[b]? = some (.cells cs t (0, 0))) (o : Nat) : w.frozen? ⟨b, o, none⟩ = false := by
  simp [World.frozen?, h]
theorem block_set {w : World} {b : Nat} {cs : Array Value} {t : TypeId} (h : w.heap[b]? = some (.cells cs t (0, 0))) (o : Nat) (v : Value) :
    (w.setCell ⟨b, o, none⟩ v).heap[b]? = some (.cells (cs.setIfInBounds o v) t (0, 0)) := by
  simp [World.setCell, Array.getElem?_modify, h]

theorem set33 (T b : Nat) (c : Int) (c0 : Value) (W : World) (hb : W.heap[b]? = some (.cells #[.int .i64 c] 33 (0, 0))) (ht : W.heap[T]? = some (.cells #[c0] 33 (0, 0))) :
    (ReflectliteValue.set #[rv 33 ⟨T, 0, none⟩ 386, rv 33 ⟨b, 0, none⟩ 130]).run Tryd.prog W = .ok (.tuple #[]) (W.setCell ⟨T, 0, none⟩ (.int .i64 c)) := by
  have h1 := block_cell hb 0
  have h2 := block_cell ht 0
  have h3 := block_free ht 0
  simp at h1 h2
  rw [rls]
  simp only [Sem.run_bind, parts33a, parts33, Result.andThen]
  simp [ReflectliteValue.flagAddr, loadVar, h1, Result.andThen, direct33, storeVar, Value.cells, storeCells, Addr.add]
  rw [run_store Tryd.prog W ⟨T, 0, none⟩ _ _ (by rfl)]
  simp [h2, h3]
theorem set35 (T b : Nat) (c a : Int) (c0 a0 : Value) (W : World) (hb : W.heap[b]? = some (.cells #[.int .i64 c, .int .i64 a] 35 (0, 0))) (ht : W.heap[T]? = some (.cells #[c0, a0] 35 (0, 0))) :
    (ReflectliteValue.set #[rv 35 ⟨T, 0, none⟩ 409, rv 35 ⟨b, 0, none⟩ 153]).run Tryd.prog W = .ok (.tuple #[]) ((W.setCell ⟨T, 0, none⟩ (.int .i64 c)).setCell ⟨T, 1, none⟩ (.int .i64 a)) := by
  have h1 := block_cell hb 0
  have h1' := block_cell hb 1
  have h2 := block_cell ht 0
  have h3 := block_free ht 0
  have ht' := block_set ht 0 (.int .i64 c)
  have h2' := block_cell ht' 1
  have h3' := block_free ht' 1
  simp at h1 h1' h2 h2'
  rw [rls]
  simp only [Sem.run_bind, parts35a, parts35, Result.andThen]
  simp [ReflectliteValue.flagAddr, loadVar, loadCells, loadCellsFrom, h1, h1', Result.andThen, direct35, storeVar, Value.cells, storeCells, Addr.add]
  rw [run_store Tryd.prog W ⟨T, 0, none⟩ _ _ (by rfl)]
  simp [h2, h3]
  rw [run_store Tryd.prog _ ⟨T, 1, none⟩ _ _ (by rfl)]
  simp [h2', h3']
end Go.Proofs.YtpeoodljchpadaaDoor
