/-
  errors.Is and errors.is at a number as the target, by walks: whether the number is at the end of a chain of steps. No conditions.
-/
import Derived.Test.YtpeoodljchpadaaDoorAsF
namespace Go.Proofs.YtpeoodljchpadaaDoor
open Go.RowKit Go.Extern.Stop Go.Stop Go.Extern

section
variable {P : Program} (w : World)
theorem run_equalIn_iface_int (d : Nat) {ti tn : TypeId} {ms : Array (String × TypeId)} {i : TypeInfo} {k : IntKind} (a b : Int)
    (hi : P.underlying ti = some (.interface ms)) (hn : P.underlying tn = some (.int k)) (hinfo : P.info? tn = some i) (hcomp : i.comparable = true) :
    (Op.equalIn (d + 2) ti (.iface tn (.int k a)) (.iface tn (.int k b))).run P w = .ok (a == b) w := by
  simp [Op.equalIn, run_underlying hi, run_underlying hn, typeInfo, hinfo, hcomp]
theorem run_eql_iface_int {ti tn : TypeId} {ms : Array (String × TypeId)} {i : TypeInfo} {k : IntKind} (a b : Int)
    (hi : P.underlying ti = some (.interface ms)) (hn : P.underlying tn = some (.int k)) (hinfo : P.info? tn = some i) (hcomp : i.comparable = true) :
    (binOp .eql ti (.iface tn (.int k a)) (.iface tn (.int k b))).run P w = .ok (.bool (a == b)) w := by
  simp only [binOp]
  simp [Op.equal, Op.maxDepth, run_equalIn_iface_int w 9998 a b hi hn hinfo hcomp]
end
theorem eq47 (n : Int) (v : Value) (w : World) : (binOp .eql 38 (.iface 47 v) (.iface 33 (.int .i64 n))).run Tryd.prog w = .ok (.bool false) w :=
  run_eql_iface_types 47 33 v (.int .i64 n) Tryd.underlying38 (by decide) w
theorem eq35 (n : Int) (v : Value) (w : World) : (binOp .eql 38 (.iface 35 v) (.iface 33 (.int .i64 n))).run Tryd.prog w = .ok (.bool false) w :=
  run_eql_iface_types 35 33 v (.int .i64 n) Tryd.underlying38 (by decide) w
theorem info33 : (Tryd.prog.info? 33).map (fun i => i.comparable) = some true := by kernel_rfl
theorem eq33 (m n : Int) (w : World) : (binOp .eql 38 (.iface 33 (.int .i64 m)) (.iface 33 (.int .i64 n))).run Tryd.prog w = .ok (.bool (m == n)) w := by
  obtain ⟨i, hi, hc⟩ := Option.map_eq_some_iff.1 info33
  exact run_eql_iface_int w m n Tryd.underlying38 Tryd.underlying33 hi hc
theorem comparable33 (w : World) : (ReflectliteType.method (fun t => do Rtype.noPackHeld "Comparable" t; (fun a : TypeInfo => Value.bool a.comparable) <$> typeInfo t) #[.agg #[hdl 33]]).run Tryd.prog w = .ok (.bool true) w := by kernel_rfl
theorem ext58 (args : Array Value) (w : World) : (callFunc 58 args).run Tryd.prog w = (((ReflectliteType.method (fun t => do Rtype.noPackHeld "Comparable" t; (fun a : TypeInfo => Value.bool a.comparable) <$> typeInfo t)) args).run Tryd.prog w).andThen fun v w' => .ok (.value v) w' :=
  run_callFunc_extern Tryd.func58 (by kernel_rfl) (by kernel_rfl) (by kernel_rfl) (by kernel_rfl) args w

/-- (Fault).Unwrap -/
theorem unwrap35 (c a : Int) (w : World) : Calls Tryd.prog 52 #[.agg #[.int .i64 c, .int .i64 a]] w fun e w' => e = .returned (numV c) ∧ w' = w.alloc (.cells #[.int .i64 c, .int .i64 a] 35) := by
  go_enter Tryd.func52, Tryd.ntmps52
  go_wp2
  go_ret
  exact ⟨rfl, rfl⟩

set_option maxHeartbeats 2000000 in
theorem is_nil (n : Int) (p : ByteArray × Int) (l : List (ByteArray × Int)) (w : World) :
    Calls Tryd.prog 30 #[chain (p :: l) .nilIface, .iface 33 (.int .i64 n), .bool true] w fun ev w' => ev = .returned (.bool false) ∧ Below w.heap.size w w' := by
  have eQ := eq47 n
  have mU := methodUn47
  have nI := fun v w => noIs 47 v (by simp) w
  have hU := fun v w => hasUn 47 v (by simp) w
  go_enter Tryd.func30, Tryd.ntmps30
  go_wp2
  go_loopg [0] (l.length) (fun k err wr => ∃ q r, k = r.length ∧ err = chain (q :: r) .nilIface ∧ Below w.heap.size w wr)
  case atStart => exact ⟨p, l, rfl, rfl, Below.refl _ _⟩
  case round =>
    obtain ⟨q, r, rfl, rfl, hb⟩ := hrel
    have hs := hb.size
    have hb2 := hb.alloc hs (.cells #[.string q.1, .int .i64 q.2, chain r .nilIface] 47)
    cases r with
    | nil =>
      simp only [chain]
      go_wp2_with (go_at_call 19; refine (unwrap47 _ _ _ _).mono ?_; rintro e w' ⟨rfl, rfl⟩)
      go_ret
      exact ⟨rfl, hb2⟩
    | cons q2 r2 =>
      simp only [chain]
      go_wp2_with (go_at_call 19; refine (unwrap47 _ _ _ _).mono ?_; rintro e w' ⟨rfl, rfl⟩)
      go_roundg r2.length
      case rel => exact ⟨q2, r2, rfl, rfl, hb2⟩
      case measure => simp

set_option maxHeartbeats 4000000 in
theorem is_num (m n : Int) (b : Bool) (hmn : (m == n) = b) (l : List (ByteArray × Int)) (w : World) :
    Calls Tryd.prog 30 #[chain l (numV m), .iface 33 (.int .i64 n), .bool true] w fun ev w' => ev = .returned (.bool b) ∧ Below w.heap.size w w' := by
  have eQ := eq47 n
  have mU := methodUn47
  have nI := fun v w => noIs 47 v (by simp) w
  have hU := fun v w => hasUn 47 v (by simp) w
  have HM := Lib.hid hmn
  clear hmn
  go_enter Tryd.func30, Tryd.ntmps30
  go_wp2
  go_loopg [0] (l.length) (fun k err wr => ∃ r, k = r.length ∧ err = chain r (numV m) ∧ Below w.heap.size w wr)
  case atStart => exact ⟨l, rfl, rfl, Below.refl _ _⟩
  case round =>
    obtain ⟨r, rfl, rfl, hrb⟩ := hrel
    have hs := hrb.size
    cases r with
    | cons q r2 =>
      have hb2 := hrb.alloc (by omega) (.cells #[.string q.1, .int .i64 q.2, chain r2 (numV m)] 47)
      cases r2 with
      | nil =>
        simp only [chain, numV]
        go_wp2_with (go_at_call 19; refine (unwrap47 _ _ _ _).mono ?_; rintro e w' ⟨rfl, rfl⟩)
        go_roundg 0
        case rel => exact ⟨[], rfl, rfl, hb2⟩
        case measure => simp
      | cons q2 r3 =>
        simp only [chain]
        go_wp2_with (go_at_call 19; refine (unwrap47 _ _ _ _).mono ?_; rintro e w' ⟨rfl, rfl⟩)
        go_roundg (r3.length + 1)
        case rel => exact ⟨q2 :: r3, by simp, rfl, hb2⟩
        case measure => simp
    | nil =>
      clear eQ mU nI hU
      have eQ := eq33 m n
      rw [HM.out] at eQ
      cases b with
      | true =>
        simp only [chain, numV]
        go_wp2
        go_ret
        exact ⟨rfl, hrb⟩
      | false =>
        have nI := fun w => noIs 33 (.int .i64 m) (by simp) w
        have nU := noUn
        have nUs := noUns
        simp only [chain, numV]
        go_wp2
        go_ret
        exact ⟨rfl, hrb⟩

set_option maxHeartbeats 4000000 in
theorem is_flt (c a n : Int) (b : Bool) (hmn : (c == n) = b) (l : List (ByteArray × Int)) (w : World) :
    Calls Tryd.prog 30 #[chain l (fltV c a), .iface 33 (.int .i64 n), .bool true] w fun ev w' => ev = .returned (.bool b) ∧ Below w.heap.size w w' := by
  have eQ := eq47 n
  have mU := methodUn47
  have nI := fun v w => noIs 47 v (by simp) w
  have hU := fun v w => hasUn 47 v (by simp) w
  have HM := Lib.hid hmn
  clear hmn
  go_enter Tryd.func30, Tryd.ntmps30
  go_wp2
  go_loopg [0] (l.length + 1) (fun k err wr => (∃ r, (k = r.length + 1 ∧ err = chain r (fltV c a)) ∨ (r = [] ∧ k = 0 ∧ err = numV c)) ∧ Below w.heap.size w wr)
  case atStart => exact ⟨⟨l, Or.inl ⟨rfl, rfl⟩⟩, Below.refl _ _⟩
  case round =>
    obtain ⟨⟨r, hr⟩, hrb⟩ := hrel
    have hs := hrb.size
    rcases hr with ⟨rfl, rfl⟩ | ⟨rfl, rfl, rfl⟩
    · cases r with
      | cons q r2 =>
        have hb2 := hrb.alloc (by omega) (.cells #[.string q.1, .int .i64 q.2, chain r2 (fltV c a)] 47)
        cases r2 with
        | nil =>
          simp only [chain, fltV]
          go_wp2_with (go_at_call 19; refine (unwrap47 _ _ _ _).mono ?_; rintro e w' ⟨rfl, rfl⟩)
          go_roundg 1
          case rel => exact ⟨⟨[], Or.inl ⟨rfl, rfl⟩⟩, hb2⟩
          case measure => simp
        | cons q2 r3 =>
          simp only [chain]
          go_wp2_with (go_at_call 19; refine (unwrap47 _ _ _ _).mono ?_; rintro e w' ⟨rfl, rfl⟩)
          go_roundg (r3.length + 1 + 1)
          case rel => exact ⟨⟨q2 :: r3, Or.inl ⟨by simp, rfl⟩⟩, hb2⟩
          case measure => simp
      | nil =>
        clear eQ mU nI hU
        have eQ := eq35 n
        have mU := methodUn35
        have nI := fun v w => noIs 35 v (by simp) w
        have hU := fun v w => hasUn 35 v (by simp) w
        have hb2 := hrb.alloc (by omega) (.cells #[.int .i64 c, .int .i64 a] 35)
        simp only [chain, fltV]
        go_wp2_with (go_at_call 52; refine (unwrap35 _ _ _).mono ?_; rintro e w' ⟨rfl, rfl⟩; simp only [numV])
        go_roundg 0
        case rel => exact ⟨⟨[], Or.inr ⟨rfl, rfl, rfl⟩⟩, hb2⟩
        case measure => simp
    · clear eQ mU nI hU
      have eQ := eq33 c n
      rw [HM.out] at eQ
      cases b with
      | true =>
        simp only [numV]
        go_wp2
        go_ret
        exact ⟨rfl, hrb⟩
      | false =>
        have nI := fun w => noIs 33 (.int .i64 c) (by simp) w
        have nU := noUn
        have nUs := noUns
        simp only [numV]
        go_wp2
        go_ret
        exact ⟨rfl, hrb⟩

set_option maxRecDepth 100000 in
set_option maxHeartbeats 2000000 in
theorem Is_nil (n : Int) (p : ByteArray × Int) (l : List (ByteArray × Int)) (w : World) :
    Calls Tryd.prog 24 #[(chain (p :: l) .nilIface), .iface 33 (.int .i64 n)] w fun ev w' => ev = .returned (.bool false) ∧ Below w.heap.size w w' := by
  have h29 := ext29
  have h58 := ext58
  have tO := fun w => typeOf 33 (.int .i64 n) (by simp) w
  have mC := methodComparable
  have cM := comparable33
  obtain ⟨tq, vq, hq'⟩ : ∃ tq vq, (chain (p :: l) .nilIface) = .iface tq vq := ⟨_, _, rfl⟩
  have Hq := Lib.hid hq'
  rw [hq']
  clear hq'
  go_enter Tryd.func24, Tryd.ntmps24
  go_wp2_with fail
  rw [← Hq.out]
  refine (is_nil n p l _).mono ?_
  rintro e w' ⟨rfl, hgr⟩
  go_wp2
  go_ret
  exact ⟨rfl, hgr⟩

set_option maxRecDepth 100000 in
set_option maxHeartbeats 2000000 in
theorem Is_num (n : Int) (m : Int) (l : List (ByteArray × Int)) (w : World) :
    Calls Tryd.prog 24 #[(chain l (numV m)), .iface 33 (.int .i64 n)] w fun ev w' => ev = .returned (.bool (m == n)) ∧ Below w.heap.size w w' := by
  have h29 := ext29
  have h58 := ext58
  have tO := fun w => typeOf 33 (.int .i64 n) (by simp) w
  have mC := methodComparable
  have cM := comparable33
  obtain ⟨tq, vq, hq'⟩ : ∃ tq vq, (chain l (numV m)) = .iface tq vq := chain_iface l 33 (.int .i64 m)
  have Hq := Lib.hid hq'
  rw [hq']
  clear hq'
  go_enter Tryd.func24, Tryd.ntmps24
  go_wp2_with fail
  rw [← Hq.out]
  refine (is_num m n _ rfl l _).mono ?_
  rintro e w' ⟨rfl, hgr⟩
  go_wp2
  go_ret
  exact ⟨rfl, hgr⟩

set_option maxRecDepth 100000 in
set_option maxHeartbeats 2000000 in
theorem Is_flt (n : Int) (c a : Int) (l : List (ByteArray × Int)) (w : World) :
    Calls Tryd.prog 24 #[(chain l (fltV c a)), .iface 33 (.int .i64 n)] w fun ev w' => ev = .returned (.bool (c == n)) ∧ Below w.heap.size w w' := by
  have h29 := ext29
  have h58 := ext58
  have tO := fun w => typeOf 33 (.int .i64 n) (by simp) w
  have mC := methodComparable
  have cM := comparable33
  obtain ⟨tq, vq, hq'⟩ : ∃ tq vq, (chain l (fltV c a)) = .iface tq vq := chain_iface l 35 (.agg #[.int .i64 c, .int .i64 a])
  have Hq := Lib.hid hq'
  rw [hq']
  clear hq'
  go_enter Tryd.func24, Tryd.ntmps24
  go_wp2_with fail
  rw [← Hq.out]
  refine (is_flt c a n _ rfl l _).mono ?_
  rintro e w' ⟨rfl, hgr⟩
  go_wp2
  go_ret
  exact ⟨rfl, hgr⟩
end Go.Proofs.YtpeoodljchpadaaDoor
