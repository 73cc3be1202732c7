/-
  errors.as at the targets *api.Fault and *api.Errno, by walks: found at the end of a chain of steps, or not there. Conditions: the target's block is there.
-/
import Derived.Test.YtpeoodljchpadaaDoorAs
import Derived.Lib.Hide
namespace Go.Proofs.YtpeoodljchpadaaDoor
open Go.RowKit Go.Extern.Stop Go.Stop Go.Extern

/-- (Step).Unwrap -/
theorem unwrap47 (a b c : Value) (w : World) : Calls Tryd.prog 19 #[.agg #[a, b, c]] w fun e w' => e = .returned c ∧ w' = w.alloc (.cells #[a, b, c] 47) := by
  go_enter Tryd.func19, Tryd.ntmps19
  go_wp2
  go_ret
  exact ⟨rfl, rfl⟩

theorem grown_of_below {w w' : World} (h : Below w.heap.size w w') (row : Option Nat) : w.grownBy w' row :=
  ⟨h.os, h.tape, h.output, h.size, fun k hk _ => h.block k hk⟩
theorem grown_trans {a b c : World} {row : Option Nat} (h : a.grownBy b row) (k : b.grownBy c row) : a.grownBy c row :=
  ⟨k.os.trans h.os, k.tape.trans h.tape, k.output.trans h.output, Nat.le_trans h.size k.size, fun i hi hr => (k.block i (Nat.lt_of_lt_of_le hi h.size) hr).trans (h.block i hi hr)⟩
theorem grown_set (w : World) (T o : Nat) (v : Value) : w.grownBy (w.setCell ⟨T, o, none⟩ v) (some T) :=
  ⟨rfl, rfl, rfl, by simp [World.setCell], fun k _ hr => Below.heap_setCell _ _ _ _ (fun e => hr (by simp [e]))⟩

set_option maxHeartbeats 2000000 in
theorem as_miss35_nil (T bx : Nat) (p : ByteArray × Int) (l : List (ByteArray × Int)) (w : World) :
    Calls Tryd.prog 28 #[chain (p :: l) .nilIface, .iface 53 (.pointer (some ⟨T, 0, none⟩)), rv 53 ⟨bx, 0, none⟩ 150, rty 35] w fun ev w' => ev = .returned (.bool false) ∧ Below w.heap.size w w' := by
  have h29 := ext29
  have h57 := ext57
  have tO := fun v w => typeOf 47 v (by simp) w
  have mA := methodAssignableTo
  have mU := methodUn47
  have aS := fun w => asg 47 35 false (by simp) w
  have nA := fun v w => noAs 47 v (by simp) w
  have hU := fun v w => hasUn 47 v (by simp) w
  go_enter Tryd.func28, Tryd.ntmps28
  go_wp2
  go_loopg [0] (l.length) (fun n err wr => ∃ q r, n = r.length ∧ err = chain (q :: r) .nilIface ∧ Below w.heap.size w wr)
  case atStart => exact ⟨p, l, rfl, rfl, (Below.refl _ _).alloc (Nat.le_refl _) _⟩
  case round =>
    obtain ⟨q, r, rfl, rfl, hb⟩ := hrel
    have hs := hb.size
    have hb2 := hb.alloc hs (.cells #[.string q.1, .int .i64 q.2, chain r .nilIface] 47)
    cases r with
    | nil =>
      simp only [chain]
      go_wp2_with (go_at_call 19; refine (unwrap47 _ _ _ _).mono ?_; rintro e w' ⟨rfl, rfl⟩)
      go_ret
      exact ⟨rfl, hb2⟩
    | cons q2 r2 =>
      simp only [chain]
      go_wp2_with (go_at_call 19; refine (unwrap47 _ _ _ _).mono ?_; rintro e w' ⟨rfl, rfl⟩)
      go_roundg r2.length
      case rel => exact ⟨q2, r2, rfl, rfl, hb2⟩
      case measure => simp

set_option maxHeartbeats 2000000 in
theorem as_miss35_num (T bx : Nat) (m : Int) (l : List (ByteArray × Int)) (w : World) :
    Calls Tryd.prog 28 #[chain l (numV m), .iface 53 (.pointer (some ⟨T, 0, none⟩)), rv 53 ⟨bx, 0, none⟩ 150, rty 35] w fun ev w' => ev = .returned (.bool false) ∧ Below w.heap.size w w' := by
  have h29 := ext29
  have h57 := ext57
  have tO := fun v w => typeOf 47 v (by simp) w
  have mA := methodAssignableTo
  have mU := methodUn47
  have aS := fun w => asg 47 35 false (by simp) w
  have nA := fun v w => noAs 47 v (by simp) w
  have hU := fun v w => hasUn 47 v (by simp) w
  go_enter Tryd.func28, Tryd.ntmps28
  go_wp2
  go_loopg [0] (l.length) (fun n err wr => ∃ r, n = r.length ∧ err = chain r (numV m) ∧ Below w.heap.size w wr)
  case atStart => exact ⟨l, rfl, rfl, (Below.refl _ _).alloc (Nat.le_refl _) _⟩
  case round =>
    obtain ⟨r, rfl, rfl, hrb⟩ := hrel
    have hs := hrb.size
    cases r with
    | cons q r2 =>
      have hb2 := hrb.alloc (by omega) (.cells #[.string q.1, .int .i64 q.2, chain r2 (numV m)] 47)
      cases r2 with
      | nil =>
        simp only [chain, numV]
        go_wp2_with (go_at_call 19; refine (unwrap47 _ _ _ _).mono ?_; rintro e w' ⟨rfl, rfl⟩)
        go_roundg 0
        case rel => exact ⟨[], rfl, rfl, hb2⟩
        case measure => simp
      | cons q2 r3 =>
        simp only [chain]
        go_wp2_with (go_at_call 19; refine (unwrap47 _ _ _ _).mono ?_; rintro e w' ⟨rfl, rfl⟩)
        go_roundg (r3.length + 1)
        case rel => exact ⟨q2 :: r3, by simp, rfl, hb2⟩
        case measure => simp
    | nil =>
      clear tO mA mU aS nA hU
      have tO := fun w => typeOf 33 (.int .i64 m) (by simp) w
      have mA := methodAssignableTo
      have aS := fun w => asg 33 35 false (by simp) w
      have nA := fun w => noAs 33 (.int .i64 m) (by simp) w
      have nU := noUn
      have nUs := noUns
      simp only [chain, numV]
      go_wp2
      go_ret
      exact ⟨rfl, hrb⟩

set_option maxHeartbeats 2000000 in
theorem as_hit35 (T bx : Nat) (c a : Int) (c0 a0 : Value) (l : List (ByteArray × Int)) (w : World) (hT : w.heap[T]? = some (.cells #[c0, a0] 35 (0, 0))) (hb : w.cell? ⟨bx, 0, none⟩ = some (.pointer (some ⟨T, 0, none⟩))) :
    Calls Tryd.prog 28 #[chain l (fltV c a), .iface 53 (.pointer (some ⟨T, 0, none⟩)), rv 53 ⟨bx, 0, none⟩ 150, rty 35] w fun ev w' => ev = .returned (.bool true) ∧ w.grownBy w' (some T) ∧ w'.heap[T]? = some (.cells #[.int .i64 c, .int .i64 a] 35 (0, 0)) := by
  have hlT : T < w.heap.size := by
    rcases Nat.lt_or_ge T w.heap.size with h | h
    · exact h
    · simp [Array.getElem?_eq_none h] at hT
  have hlb : bx < w.heap.size := World.block_lt_of_cell? w _ hb
  have h29 := ext29
  have h57 := ext57
  have tO := fun v w => typeOf 47 v (by simp) w
  have mA := methodAssignableTo
  have mU := methodUn47
  have aS := fun w => asg 47 35 false (by simp) w
  have nA := fun v w => noAs 47 v (by simp) w
  have hU := fun v w => hasUn 47 v (by simp) w
  go_enter Tryd.func28, Tryd.ntmps28
  go_wp2
  go_loopg [0] (l.length) (fun n err wr => ∃ r, n = r.length ∧ err = chain r (fltV c a) ∧ Below (w.heap.size + 1) (w.alloc (.cells #[hdl 53, .pointer (some ⟨bx, 0, none⟩), .int .u64 150] 61)) wr)
  case atStart => exact ⟨l, rfl, rfl, Below.refl _ _⟩
  case round =>
    obtain ⟨r, rfl, rfl, hrb⟩ := hrel
    have hs := hrb.size
    simp only [World.size_alloc] at hs
    cases r with
    | cons q r2 =>
      have hb2 := hrb.alloc (by omega) (.cells #[.string q.1, .int .i64 q.2, chain r2 (fltV c a)] 47)
      cases r2 with
      | nil =>
        simp only [chain, fltV]
        go_wp2_with (go_at_call 19; refine (unwrap47 _ _ _ _).mono ?_; rintro e w' ⟨rfl, rfl⟩)
        go_roundg 0
        case rel => exact ⟨[], rfl, rfl, hb2⟩
        case measure => simp
      | cons q2 r3 =>
        simp only [chain]
        go_wp2_with (go_at_call 19; refine (unwrap47 _ _ _ _).mono ?_; rintro e w' ⟨rfl, rfl⟩)
        go_roundg (r3.length + 1)
        case rel => exact ⟨q2 :: r3, by simp, rfl, hb2⟩
        case measure => simp
    | nil =>
      clear tO mA mU aS nA hU
      have tO := fun w => typeOf 35 (.agg #[.int .i64 c, .int .i64 a]) (by simp) w
      have mA := methodAssignableTo
      have aS := fun w => asg 35 35 true (by simp) w
      have h31 := ext31
      have h25 := ext25
      have h32 := ext32
      have v35 := valueOf35
      have hbx : wr.cell? ⟨bx, 0, none⟩ = some (.pointer (some ⟨T, 0, none⟩)) := by
        rw [hrb.cell (p := ⟨bx, 0, none⟩) (by show bx < _; omega), World.cell?_alloc_lt _ _ ⟨bx, 0, none⟩ hlb]; exact hb
      have hTr : wr.heap[T]? = some (.cells #[c0, a0] 35 (0, 0)) := by
        rw [hrb.block T (by omega), Below.heap_alloc _ _ _ hlT]; exact hT
      have hc : ∀ j, wr.cell? ⟨w.heap.size, j, none⟩ = #[hdl 53, .pointer (some ⟨bx, 0, none⟩), .int .u64 150][j]? := fun j => by
        rw [hrb.cell (p := ⟨w.heap.size, j, none⟩) (by show w.heap.size < _; omega)]
        exact block_cell (t := 61) (heap_alloc_new w _) j
      have hc0 := hc 0
      have hc1 := hc 1
      have hc2 := hc 2
      clear hc
      simp at hc0 hc1 hc2
      have el := elemV53 ⟨bx, 0, none⟩ ⟨T, 0, none⟩ wr hbx
      have hTn : (wr.alloc (.cells #[.int .i64 c, .int .i64 a] 35)).heap[T]? = some (.cells #[c0, a0] 35 (0, 0)) := by rw [Below.heap_alloc _ _ _ (by omega)]; exact hTr
      have st := set35 T wr.heap.size c a c0 a0 (wr.alloc (.cells #[.int .i64 c, .int .i64 a] 35)) (heap_alloc_new wr _) hTn
      have G1 : w.grownBy (wr.alloc (.cells #[.int .i64 c, .int .i64 a] 35)) (some T) := by
        have hbb : Below w.heap.size w (wr.alloc (.cells #[.int .i64 c, .int .i64 a] 35)) := (((Below.refl w.heap.size w).alloc (Nat.le_refl _) _).trans (hrb.mono (by omega))).alloc (by omega) _
        exact grown_of_below hbb _
      have HG := Lib.hid hTn
      clear hTr hTn hT hb
      simp only [chain, fltV]
      go_wp2
      go_ret
      have B1 := block_set HG.out 0 (.int .i64 c)
      have B2 := block_set B1 1 (.int .i64 a)
      exact ⟨rfl, grown_trans G1 (grown_trans (grown_set _ T 0 _) (grown_set _ T 1 _)), B2⟩

set_option maxHeartbeats 2000000 in
theorem as_miss33_nil (T bx : Nat) (p : ByteArray × Int) (l : List (ByteArray × Int)) (w : World) :
    Calls Tryd.prog 28 #[chain (p :: l) .nilIface, .iface 56 (.pointer (some ⟨T, 0, none⟩)), rv 56 ⟨bx, 0, none⟩ 150, rty 33] w fun ev w' => ev = .returned (.bool false) ∧ Below w.heap.size w w' := by
  have h29 := ext29
  have h57 := ext57
  have tO := fun v w => typeOf 47 v (by simp) w
  have mA := methodAssignableTo
  have mU := methodUn47
  have aS := fun w => asg 47 33 false (by simp) w
  have nA := fun v w => noAs 47 v (by simp) w
  have hU := fun v w => hasUn 47 v (by simp) w
  go_enter Tryd.func28, Tryd.ntmps28
  go_wp2
  go_loopg [0] (l.length) (fun n err wr => ∃ q r, n = r.length ∧ err = chain (q :: r) .nilIface ∧ Below w.heap.size w wr)
  case atStart => exact ⟨p, l, rfl, rfl, (Below.refl _ _).alloc (Nat.le_refl _) _⟩
  case round =>
    obtain ⟨q, r, rfl, rfl, hb⟩ := hrel
    have hs := hb.size
    have hb2 := hb.alloc hs (.cells #[.string q.1, .int .i64 q.2, chain r .nilIface] 47)
    cases r with
    | nil =>
      simp only [chain]
      go_wp2_with (go_at_call 19; refine (unwrap47 _ _ _ _).mono ?_; rintro e w' ⟨rfl, rfl⟩)
      go_ret
      exact ⟨rfl, hb2⟩
    | cons q2 r2 =>
      simp only [chain]
      go_wp2_with (go_at_call 19; refine (unwrap47 _ _ _ _).mono ?_; rintro e w' ⟨rfl, rfl⟩)
      go_roundg r2.length
      case rel => exact ⟨q2, r2, rfl, rfl, hb2⟩
      case measure => simp

set_option maxHeartbeats 2000000 in
theorem as_hit33 (T bx : Nat) (m : Int) (c0 : Value) (l : List (ByteArray × Int)) (w : World) (hT : w.heap[T]? = some (.cells #[c0] 33 (0, 0))) (hb : w.cell? ⟨bx, 0, none⟩ = some (.pointer (some ⟨T, 0, none⟩))) :
    Calls Tryd.prog 28 #[chain l (numV m), .iface 56 (.pointer (some ⟨T, 0, none⟩)), rv 56 ⟨bx, 0, none⟩ 150, rty 33] w fun ev w' => ev = .returned (.bool true) ∧ w.grownBy w' (some T) ∧ w'.heap[T]? = some (.cells #[.int .i64 m] 33 (0, 0)) := by
  have hlT : T < w.heap.size := by
    rcases Nat.lt_or_ge T w.heap.size with h | h
    · exact h
    · simp [Array.getElem?_eq_none h] at hT
  have hlb : bx < w.heap.size := World.block_lt_of_cell? w _ hb
  have h29 := ext29
  have h57 := ext57
  have tO := fun v w => typeOf 47 v (by simp) w
  have mA := methodAssignableTo
  have mU := methodUn47
  have aS := fun w => asg 47 33 false (by simp) w
  have nA := fun v w => noAs 47 v (by simp) w
  have hU := fun v w => hasUn 47 v (by simp) w
  go_enter Tryd.func28, Tryd.ntmps28
  go_wp2
  go_loopg [0] (l.length) (fun n err wr => ∃ r, n = r.length ∧ err = chain r (numV m) ∧ Below (w.heap.size + 1) (w.alloc (.cells #[hdl 56, .pointer (some ⟨bx, 0, none⟩), .int .u64 150] 61)) wr)
  case atStart => exact ⟨l, rfl, rfl, Below.refl _ _⟩
  case round =>
    obtain ⟨r, rfl, rfl, hrb⟩ := hrel
    have hs := hrb.size
    simp only [World.size_alloc] at hs
    cases r with
    | cons q r2 =>
      have hb2 := hrb.alloc (by omega) (.cells #[.string q.1, .int .i64 q.2, chain r2 (numV m)] 47)
      cases r2 with
      | nil =>
        simp only [chain, numV]
        go_wp2_with (go_at_call 19; refine (unwrap47 _ _ _ _).mono ?_; rintro e w' ⟨rfl, rfl⟩)
        go_roundg 0
        case rel => exact ⟨[], rfl, rfl, hb2⟩
        case measure => simp
      | cons q2 r3 =>
        simp only [chain]
        go_wp2_with (go_at_call 19; refine (unwrap47 _ _ _ _).mono ?_; rintro e w' ⟨rfl, rfl⟩)
        go_roundg (r3.length + 1)
        case rel => exact ⟨q2 :: r3, by simp, rfl, hb2⟩
        case measure => simp
    | nil =>
      clear tO mA mU aS nA hU
      have tO := fun w => typeOf 33 (.int .i64 m) (by simp) w
      have mA := methodAssignableTo
      have aS := fun w => asg 33 33 true (by simp) w
      have h31 := ext31
      have h25 := ext25
      have h32 := ext32
      have v35 := valueOf33
      have hbx : wr.cell? ⟨bx, 0, none⟩ = some (.pointer (some ⟨T, 0, none⟩)) := by
        rw [hrb.cell (p := ⟨bx, 0, none⟩) (by show bx < _; omega), World.cell?_alloc_lt _ _ ⟨bx, 0, none⟩ hlb]; exact hb
      have hTr : wr.heap[T]? = some (.cells #[c0] 33 (0, 0)) := by
        rw [hrb.block T (by omega), Below.heap_alloc _ _ _ hlT]; exact hT
      have hc : ∀ j, wr.cell? ⟨w.heap.size, j, none⟩ = #[hdl 56, .pointer (some ⟨bx, 0, none⟩), .int .u64 150][j]? := fun j => by
        rw [hrb.cell (p := ⟨w.heap.size, j, none⟩) (by show w.heap.size < _; omega)]
        exact block_cell (t := 61) (heap_alloc_new w _) j
      have hc0 := hc 0
      have hc1 := hc 1
      have hc2 := hc 2
      clear hc
      simp at hc0 hc1 hc2
      have el := elemV56 ⟨bx, 0, none⟩ ⟨T, 0, none⟩ wr hbx
      have hTn : (wr.alloc (.cells #[.int .i64 m] 33)).heap[T]? = some (.cells #[c0] 33 (0, 0)) := by rw [Below.heap_alloc _ _ _ (by omega)]; exact hTr
      have st := set33 T wr.heap.size m c0 (wr.alloc (.cells #[.int .i64 m] 33)) (heap_alloc_new wr _) hTn
      have G1 : w.grownBy (wr.alloc (.cells #[.int .i64 m] 33)) (some T) := by
        have hbb : Below w.heap.size w (wr.alloc (.cells #[.int .i64 m] 33)) := (((Below.refl w.heap.size w).alloc (Nat.le_refl _) _).trans (hrb.mono (by omega))).alloc (by omega) _
        exact grown_of_below hbb _
      have HG := Lib.hid hTn
      clear hTr hTn hT hb
      simp only [chain, numV]
      go_wp2
      go_ret
      have B1 := block_set HG.out 0 (.int .i64 m)
      exact ⟨rfl, grown_trans G1 (grown_set _ T 0 _), B1⟩

end Go.Proofs.YtpeoodljchpadaaDoor
