/-
  errors.As at the targets *api.Fault and *api.Errno, by walks over errors.as' contracts. Conditions: the target's block is there; errors.errorType holds its type's handle.
-/
import Derived.Test.YtpeoodljchpadaaDoorAsW
namespace Go.Proofs.YtpeoodljchpadaaDoor
open Go.RowKit Go.Extern.Stop Go.Stop Go.Extern

theorem as_nil (t : Value) (w : World) :
    Calls Tryd.prog 21 #[.nilIface, t] w fun e w' => e = .returned (.bool false) ∧ w' = w := by
  go_enter Tryd.func21, Tryd.ntmps21
  go_wp2
  go_ret
  exact ⟨rfl, rfl⟩
theorem chain_iface (l : List (ByteArray × Int)) (t : Nat) (v : Value) : ∃ t' v', chain l (.iface t v) = .iface t' v' := by
  cases l with
  | nil => exact ⟨_, _, rfl⟩
  | cons p r => exact ⟨_, _, rfl⟩
/-- what was there is as it was, whatever is laid behind it -/
theorem two_new {w : World} {T : Nat} {x : Obj} (h : w.heap[T]? = some x) (o p : Obj) : ((w.alloc o).alloc p).heap[T]? = some x := by
  have hl : T < w.heap.size := by
    rcases Nat.lt_or_ge T w.heap.size with h' | h'
    · exact h'
    · simp [Array.getElem?_eq_none h'] at h
  rw [Below.heap_alloc _ _ _ (by simp; omega), Below.heap_alloc _ _ _ hl]; exact h
theorem grown_alloc2 {w w' : World} {o p : Obj} {row : Option Nat} (h : ((w.alloc o).alloc p).grownBy w' row) : w.grownBy w' row :=
  grown_trans (grown_of_below (((Below.refl _ _).alloc (Nat.le_refl _) _).alloc (by simp) _) row) h
theorem below_alloc2 {w w' : World} {o p : Obj} (h : Below ((w.alloc o).alloc p).heap.size ((w.alloc o).alloc p) w') : Below w.heap.size w w' :=
  (((Below.refl _ _).alloc (Nat.le_refl _) _).alloc (by simp) _).trans (h.mono (by simp; omega))

set_option maxHeartbeats 2000000 in
theorem As_miss35_nil (T : Nat) (p : ByteArray × Int) (c0 a0 : Value) (l : List (ByteArray × Int)) (w : World) (hT : w.heap[T]? = some (.cells #[c0, a0] 35 (0, 0))) (hg : w.cell? ⟨0, 0, none⟩ = some (rty 38)) :
    Calls Tryd.prog 21 #[(chain (p :: l) .nilIface), .iface 53 (.pointer (some ⟨T, 0, none⟩))] w fun ev w' => ev = .returned (.bool false) ∧ Below w.heap.size w w' := by
  have hT2 : ((w.alloc (.cells #[.pointer (some ⟨T, 0, none⟩)] 53)).alloc (.cells #[hdl 53, .pointer (some ⟨w.heap.size, 0, none⟩), .int .u64 150] 61)).heap[T]? = some (.cells #[c0, a0] 35 (0, 0)) := two_new hT _ _
  have hb2 : ((w.alloc (.cells #[.pointer (some ⟨T, 0, none⟩)] 53)).alloc (.cells #[hdl 53, .pointer (some ⟨w.heap.size, 0, none⟩), .int .u64 150] 61)).cell? ⟨w.heap.size, 0, none⟩ = some (.pointer (some ⟨T, 0, none⟩)) := by
    rw [World.cell?_alloc_lt _ _ ⟨w.heap.size, 0, none⟩ (by simp)]
    exact block_cell (t := 53) (heap_alloc_new w _) 0
  have hl0 : 0 < w.heap.size := World.block_lt_of_cell? w _ hg
  have hg2 : ((w.alloc (.cells #[.pointer (some ⟨T, 0, none⟩)] 53)).alloc (.cells #[hdl 53, .pointer (some ⟨w.heap.size, 0, none⟩), .int .u64 150] 61)).cell? ⟨0, 0, none⟩ = some (rty 38) := by
    rw [World.cell?_alloc_lt _ _ ⟨0, 0, none⟩ (by simp), World.cell?_alloc_lt _ _ ⟨0, 0, none⟩ hl0]; exact hg
  have h25 := ext25
  have h26 := ext26
  have h27 := ext27
  have h47 := ext47
  have h59 := ext59
  have h60 := ext60
  have vO := valueOf53
  have ty := type53
  have mK := methodKind
  have mE := methodElem
  have mI := methodImplements
  have k1 := kind53
  have k2 := kind35
  have eL := elem53
  have iM := implements35
  have iN := isNil53 ⟨w.heap.size, 0, none⟩ ⟨T, 0, none⟩ ((w.alloc (.cells #[.pointer (some ⟨T, 0, none⟩)] 53)).alloc (.cells #[hdl 53, .pointer (some ⟨w.heap.size, 0, none⟩), .int .u64 150] 61)) hb2
  have HT := Lib.hid hT2
  have HB := Lib.hid hb2
  clear hT2 hb2 hT hg
  obtain ⟨tq, vq, hq'⟩ : ∃ tq vq, (chain (p :: l) .nilIface) = .iface tq vq := ⟨_, _, rfl⟩
  have Hq := Lib.hid hq'
  rw [hq']
  clear hq'
  go_enter Tryd.func21, Tryd.ntmps21
  go_wp2_with fail
  rw [← Hq.out]
  refine (as_miss35_nil T _ p l _).mono ?_
  rintro e w' ⟨rfl, hgr⟩
  go_wp2
  go_ret
  exact ⟨rfl, below_alloc2 hgr⟩

set_option maxHeartbeats 2000000 in
theorem As_miss35_num (T : Nat) (m : Int) (c0 a0 : Value) (l : List (ByteArray × Int)) (w : World) (hT : w.heap[T]? = some (.cells #[c0, a0] 35 (0, 0))) (hg : w.cell? ⟨0, 0, none⟩ = some (rty 38)) :
    Calls Tryd.prog 21 #[(chain l (numV m)), .iface 53 (.pointer (some ⟨T, 0, none⟩))] w fun ev w' => ev = .returned (.bool false) ∧ Below w.heap.size w w' := by
  have hT2 : ((w.alloc (.cells #[.pointer (some ⟨T, 0, none⟩)] 53)).alloc (.cells #[hdl 53, .pointer (some ⟨w.heap.size, 0, none⟩), .int .u64 150] 61)).heap[T]? = some (.cells #[c0, a0] 35 (0, 0)) := two_new hT _ _
  have hb2 : ((w.alloc (.cells #[.pointer (some ⟨T, 0, none⟩)] 53)).alloc (.cells #[hdl 53, .pointer (some ⟨w.heap.size, 0, none⟩), .int .u64 150] 61)).cell? ⟨w.heap.size, 0, none⟩ = some (.pointer (some ⟨T, 0, none⟩)) := by
    rw [World.cell?_alloc_lt _ _ ⟨w.heap.size, 0, none⟩ (by simp)]
    exact block_cell (t := 53) (heap_alloc_new w _) 0
  have hl0 : 0 < w.heap.size := World.block_lt_of_cell? w _ hg
  have hg2 : ((w.alloc (.cells #[.pointer (some ⟨T, 0, none⟩)] 53)).alloc (.cells #[hdl 53, .pointer (some ⟨w.heap.size, 0, none⟩), .int .u64 150] 61)).cell? ⟨0, 0, none⟩ = some (rty 38) := by
    rw [World.cell?_alloc_lt _ _ ⟨0, 0, none⟩ (by simp), World.cell?_alloc_lt _ _ ⟨0, 0, none⟩ hl0]; exact hg
  have h25 := ext25
  have h26 := ext26
  have h27 := ext27
  have h47 := ext47
  have h59 := ext59
  have h60 := ext60
  have vO := valueOf53
  have ty := type53
  have mK := methodKind
  have mE := methodElem
  have mI := methodImplements
  have k1 := kind53
  have k2 := kind35
  have eL := elem53
  have iM := implements35
  have iN := isNil53 ⟨w.heap.size, 0, none⟩ ⟨T, 0, none⟩ ((w.alloc (.cells #[.pointer (some ⟨T, 0, none⟩)] 53)).alloc (.cells #[hdl 53, .pointer (some ⟨w.heap.size, 0, none⟩), .int .u64 150] 61)) hb2
  have HT := Lib.hid hT2
  have HB := Lib.hid hb2
  clear hT2 hb2 hT hg
  obtain ⟨tq, vq, hq⟩ := chain_iface l 33 (.int .i64 m)
  have hq' : (chain l (numV m)) = .iface tq vq := hq
  have Hq := Lib.hid hq'
  rw [hq']
  clear hq hq'
  go_enter Tryd.func21, Tryd.ntmps21
  go_wp2_with fail
  rw [← Hq.out]
  refine (as_miss35_num T _ m l _).mono ?_
  rintro e w' ⟨rfl, hgr⟩
  go_wp2
  go_ret
  exact ⟨rfl, below_alloc2 hgr⟩

set_option maxHeartbeats 2000000 in
theorem As_hit35 (T : Nat) (c a : Int) (c0 a0 : Value) (l : List (ByteArray × Int)) (w : World) (hT : w.heap[T]? = some (.cells #[c0, a0] 35 (0, 0))) (hg : w.cell? ⟨0, 0, none⟩ = some (rty 38)) :
    Calls Tryd.prog 21 #[(chain l (fltV c a)), .iface 53 (.pointer (some ⟨T, 0, none⟩))] w fun ev w' => ev = .returned (.bool true) ∧ w.grownBy w' (some T) ∧ w'.heap[T]? = some (.cells #[.int .i64 c, .int .i64 a] 35 (0, 0)) := by
  have hT2 : ((w.alloc (.cells #[.pointer (some ⟨T, 0, none⟩)] 53)).alloc (.cells #[hdl 53, .pointer (some ⟨w.heap.size, 0, none⟩), .int .u64 150] 61)).heap[T]? = some (.cells #[c0, a0] 35 (0, 0)) := two_new hT _ _
  have hb2 : ((w.alloc (.cells #[.pointer (some ⟨T, 0, none⟩)] 53)).alloc (.cells #[hdl 53, .pointer (some ⟨w.heap.size, 0, none⟩), .int .u64 150] 61)).cell? ⟨w.heap.size, 0, none⟩ = some (.pointer (some ⟨T, 0, none⟩)) := by
    rw [World.cell?_alloc_lt _ _ ⟨w.heap.size, 0, none⟩ (by simp)]
    exact block_cell (t := 53) (heap_alloc_new w _) 0
  have hl0 : 0 < w.heap.size := World.block_lt_of_cell? w _ hg
  have hg2 : ((w.alloc (.cells #[.pointer (some ⟨T, 0, none⟩)] 53)).alloc (.cells #[hdl 53, .pointer (some ⟨w.heap.size, 0, none⟩), .int .u64 150] 61)).cell? ⟨0, 0, none⟩ = some (rty 38) := by
    rw [World.cell?_alloc_lt _ _ ⟨0, 0, none⟩ (by simp), World.cell?_alloc_lt _ _ ⟨0, 0, none⟩ hl0]; exact hg
  have h25 := ext25
  have h26 := ext26
  have h27 := ext27
  have h47 := ext47
  have h59 := ext59
  have h60 := ext60
  have vO := valueOf53
  have ty := type53
  have mK := methodKind
  have mE := methodElem
  have mI := methodImplements
  have k1 := kind53
  have k2 := kind35
  have eL := elem53
  have iM := implements35
  have iN := isNil53 ⟨w.heap.size, 0, none⟩ ⟨T, 0, none⟩ ((w.alloc (.cells #[.pointer (some ⟨T, 0, none⟩)] 53)).alloc (.cells #[hdl 53, .pointer (some ⟨w.heap.size, 0, none⟩), .int .u64 150] 61)) hb2
  have HT := Lib.hid hT2
  have HB := Lib.hid hb2
  clear hT2 hb2 hT hg
  obtain ⟨tq, vq, hq⟩ := chain_iface l 35 (.agg #[.int .i64 c, .int .i64 a])
  have hq' : (chain l (fltV c a)) = .iface tq vq := hq
  have Hq := Lib.hid hq'
  rw [hq']
  clear hq hq'
  go_enter Tryd.func21, Tryd.ntmps21
  go_wp2_with fail
  rw [← Hq.out]
  refine (as_hit35 T w.heap.size c a c0 a0 l _ HT.out HB.out).mono ?_
  rintro e w' ⟨rfl, hgr, hbl⟩
  go_wp2
  go_ret
  exact ⟨rfl, grown_alloc2 hgr, hbl⟩

set_option maxHeartbeats 2000000 in
theorem As_miss33_nil (T : Nat) (p : ByteArray × Int) (c0 : Value) (l : List (ByteArray × Int)) (w : World) (hT : w.heap[T]? = some (.cells #[c0] 33 (0, 0))) (hg : w.cell? ⟨0, 0, none⟩ = some (rty 38)) :
    Calls Tryd.prog 21 #[(chain (p :: l) .nilIface), .iface 56 (.pointer (some ⟨T, 0, none⟩))] w fun ev w' => ev = .returned (.bool false) ∧ Below w.heap.size w w' := by
  have hT2 : ((w.alloc (.cells #[.pointer (some ⟨T, 0, none⟩)] 56)).alloc (.cells #[hdl 56, .pointer (some ⟨w.heap.size, 0, none⟩), .int .u64 150] 61)).heap[T]? = some (.cells #[c0] 33 (0, 0)) := two_new hT _ _
  have hb2 : ((w.alloc (.cells #[.pointer (some ⟨T, 0, none⟩)] 56)).alloc (.cells #[hdl 56, .pointer (some ⟨w.heap.size, 0, none⟩), .int .u64 150] 61)).cell? ⟨w.heap.size, 0, none⟩ = some (.pointer (some ⟨T, 0, none⟩)) := by
    rw [World.cell?_alloc_lt _ _ ⟨w.heap.size, 0, none⟩ (by simp)]
    exact block_cell (t := 56) (heap_alloc_new w _) 0
  have hl0 : 0 < w.heap.size := World.block_lt_of_cell? w _ hg
  have hg2 : ((w.alloc (.cells #[.pointer (some ⟨T, 0, none⟩)] 56)).alloc (.cells #[hdl 56, .pointer (some ⟨w.heap.size, 0, none⟩), .int .u64 150] 61)).cell? ⟨0, 0, none⟩ = some (rty 38) := by
    rw [World.cell?_alloc_lt _ _ ⟨0, 0, none⟩ (by simp), World.cell?_alloc_lt _ _ ⟨0, 0, none⟩ hl0]; exact hg
  have h25 := ext25
  have h26 := ext26
  have h27 := ext27
  have h47 := ext47
  have h59 := ext59
  have h60 := ext60
  have vO := valueOf56
  have ty := type56
  have mK := methodKind
  have mE := methodElem
  have mI := methodImplements
  have k1 := kind56
  have k2 := kind33
  have eL := elem56
  have iM := implements33
  have iN := isNil56 ⟨w.heap.size, 0, none⟩ ⟨T, 0, none⟩ ((w.alloc (.cells #[.pointer (some ⟨T, 0, none⟩)] 56)).alloc (.cells #[hdl 56, .pointer (some ⟨w.heap.size, 0, none⟩), .int .u64 150] 61)) hb2
  have HT := Lib.hid hT2
  have HB := Lib.hid hb2
  clear hT2 hb2 hT hg
  obtain ⟨tq, vq, hq'⟩ : ∃ tq vq, (chain (p :: l) .nilIface) = .iface tq vq := ⟨_, _, rfl⟩
  have Hq := Lib.hid hq'
  rw [hq']
  clear hq'
  go_enter Tryd.func21, Tryd.ntmps21
  go_wp2_with fail
  rw [← Hq.out]
  refine (as_miss33_nil T _ p l _).mono ?_
  rintro e w' ⟨rfl, hgr⟩
  go_wp2
  go_ret
  exact ⟨rfl, below_alloc2 hgr⟩

set_option maxHeartbeats 2000000 in
theorem As_hit33 (T : Nat) (m : Int) (c0 : Value) (l : List (ByteArray × Int)) (w : World) (hT : w.heap[T]? = some (.cells #[c0] 33 (0, 0))) (hg : w.cell? ⟨0, 0, none⟩ = some (rty 38)) :
    Calls Tryd.prog 21 #[(chain l (numV m)), .iface 56 (.pointer (some ⟨T, 0, none⟩))] w fun ev w' => ev = .returned (.bool true) ∧ w.grownBy w' (some T) ∧ w'.heap[T]? = some (.cells #[.int .i64 m] 33 (0, 0)) := by
  have hT2 : ((w.alloc (.cells #[.pointer (some ⟨T, 0, none⟩)] 56)).alloc (.cells #[hdl 56, .pointer (some ⟨w.heap.size, 0, none⟩), .int .u64 150] 61)).heap[T]? = some (.cells #[c0] 33 (0, 0)) := two_new hT _ _
  have hb2 : ((w.alloc (.cells #[.pointer (some ⟨T, 0, none⟩)] 56)).alloc (.cells #[hdl 56, .pointer (some ⟨w.heap.size, 0, none⟩), .int .u64 150] 61)).cell? ⟨w.heap.size, 0, none⟩ = some (.pointer (some ⟨T, 0, none⟩)) := by
    rw [World.cell?_alloc_lt _ _ ⟨w.heap.size, 0, none⟩ (by simp)]
    exact block_cell (t := 56) (heap_alloc_new w _) 0
  have hl0 : 0 < w.heap.size := World.block_lt_of_cell? w _ hg
  have hg2 : ((w.alloc (.cells #[.pointer (some ⟨T, 0, none⟩)] 56)).alloc (.cells #[hdl 56, .pointer (some ⟨w.heap.size, 0, none⟩), .int .u64 150] 61)).cell? ⟨0, 0, none⟩ = some (rty 38) := by
    rw [World.cell?_alloc_lt _ _ ⟨0, 0, none⟩ (by simp), World.cell?_alloc_lt _ _ ⟨0, 0, none⟩ hl0]; exact hg
  have h25 := ext25
  have h26 := ext26
  have h27 := ext27
  have h47 := ext47
  have h59 := ext59
  have h60 := ext60
  have vO := valueOf56
  have ty := type56
  have mK := methodKind
  have mE := methodElem
  have mI := methodImplements
  have k1 := kind56
  have k2 := kind33
  have eL := elem56
  have iM := implements33
  have iN := isNil56 ⟨w.heap.size, 0, none⟩ ⟨T, 0, none⟩ ((w.alloc (.cells #[.pointer (some ⟨T, 0, none⟩)] 56)).alloc (.cells #[hdl 56, .pointer (some ⟨w.heap.size, 0, none⟩), .int .u64 150] 61)) hb2
  have HT := Lib.hid hT2
  have HB := Lib.hid hb2
  clear hT2 hb2 hT hg
  obtain ⟨tq, vq, hq⟩ := chain_iface l 33 (.int .i64 m)
  have hq' : (chain l (numV m)) = .iface tq vq := hq
  have Hq := Lib.hid hq'
  rw [hq']
  clear hq hq'
  go_enter Tryd.func21, Tryd.ntmps21
  go_wp2_with fail
  rw [← Hq.out]
  refine (as_hit33 T w.heap.size m c0 l _ HT.out HB.out).mono ?_
  rintro e w' ⟨rfl, hgr, hbl⟩
  go_wp2
  go_ret
  exact ⟨rfl, grown_alloc2 hgr, hbl⟩

/-! errors.is: is the number n at the chain's end? -/
def codeIs : Value → Int → Bool
  | .iface 33 (.int _ m), n => m == n
  | .iface 35 (.agg #[.int _ m, _]), n => m == n
  | _, _ => false
end Go.Proofs.YtpeoodljchpadaaDoor
