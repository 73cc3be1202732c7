/-
  The walks of the document's Inner, Of and Is over a way as the document has it. Conditions: the way's rows are there; at most 61 words.
-/
import Derived.Test.YtpeoodljchpadaaDoorWay
import Derived.Test.YtpeoodljchpadaaDoorOf
import Derived.Lib.Hide
import Derived.Deep.QuietTactic
import Derived.BigQuiet
import Derived.Deep.RegionWith
namespace Go.Proofs.YtpeoodljchpadaaDoor
open Go.RowKit Go.Extern.Stop Go.Stop Go.Extern

theorem inner_any (y1 y2 : Value) (e c a : Int) (sl : List (ByteArray × Int)) (hl : sl.length ≤ 61) (w : World) (hw : WayAt w y1 y2 sl) :
    Calls Tryd.prog 20 #[.agg #[y1, y2, .int .i64 e, .int .i64 c, .int .i64 a]] w fun ev w' => ev = .returned (.int .i64 (innerAt sl)) ∧ Below w.heap.size w w' := by
  obtain ⟨a1, m1, a2, m2, rfl, rfl, hc⟩ := hw
  cases sl with
  | nil =>
    have z : ((([] : List (ByteArray × Int)).length : Int) == 0) = true := by simp
    go_enter Tryd.func20, Tryd.ntmps20
    go_wp2
    go_ret
    exact ⟨rfl, (Below.refl _ _).alloc (Nat.le_refl _) _⟩
  | cons p l =>
    obtain ⟨g1, g2, rfl, rfl, hg1, hg2, hcc⟩ : ∃ g1 g2, a1 = some ⟨g1, 0, none⟩ ∧ a2 = some ⟨g2, 0, none⟩ ∧ g1 < w.heap.size ∧ g2 < w.heap.size ∧ ∀ k (h : k < (p :: l).length), w.cell? ⟨g1, k, none⟩ = some (.string (p :: l)[k].1) ∧ w.cell? ⟨g2, k, none⟩ = some (.int .i64 (p :: l)[k].2) := by
      rcases hc with h | h
      · simp at h
      · exact h
    have c1 := (hcc l.length (by simp)).2
    have hi := innerAt_get p l
    rw [← hi] at c1
    have c2 := cell_alloc c1 (.cells #[.slice (some ⟨g1, 0, none⟩) (l.length + 1) m1, .slice (some ⟨g2, 0, none⟩) (l.length + 1) m2, .int .i64 e, .int .i64 c, .int .i64 a] 29)
    have HI := Lib.hid hi
    clear hcc hc hi c1
    have z : (((l.length : Int) + 1) == 0) = false := by rw [beq_eq_false_iff_ne]; omega
    simp only [List.length_cons] at hl
    simp only [List.length_cons]
    go_enter Tryd.func20, Tryd.ntmps20
    go_wp2
    go_ret
    exact ⟨rfl, (Below.refl _ _).alloc (Nat.le_refl _) _⟩

theorem refOf1 (y1 y2 : Value) (c a : Int) (sl : List (ByteArray × Int)) (w : World) (hw : WayAt w y1 y2 sl) :
    Calls Tryd.prog 10 #[.agg #[y1, y2, .int .i64 1, .int .i64 c, .int .i64 a]] w fun ev w' => ev = .returned (.tuple #[.int .i64 c, .int .i64 a]) ∧ Below w.heap.size w w' := by
  obtain ⟨a1, m1, a2, m2, rfl, rfl, _⟩ := hw
  go_enter Tryd.func10, Tryd.ntmps10
  go_wp2
  go_quiet (fail)
  go_wp2
  go_ret2
  exact ⟨rfl, below_drewN ((Below.refl _ _).alloc (Nat.le_refl _) _) _⟩

theorem refOf0 (y1 y2 : Value) (c a : Int) (sl : List (ByteArray × Int)) (hl : sl.length ≤ 61) (w : World) (hw : WayAt w y1 y2 sl) :
    Calls Tryd.prog 10 #[.agg #[y1, y2, .int .i64 0, .int .i64 c, .int .i64 a]] w fun ev w' => ev = .returned (.tuple #[.int .i64 21, .int .i64 (innerAt sl)]) ∧ Below w.heap.size w w' := by
  have hw2 := WayAt.ext hw ((Below.refl w.heap.size w).alloc (Nat.le_refl _) (.cells #[y1, y2, .int .i64 0, .int .i64 c, .int .i64 a] 29))
  have HW := Lib.hid hw2
  clear hw2
  obtain ⟨a1, m1, a2, m2, rfl, rfl, _⟩ := hw
  go_enter Tryd.func10, Tryd.ntmps10
  go_wp2_with (go_at_call 20; refine (inner_any _ _ _ _ _ sl hl _ HW.out).mono ?_; rintro e w1 ⟨rfl, hb1⟩)
  go_ret2
  exact ⟨rfl, ((Below.refl _ _).alloc (Nat.le_refl _) _).trans (hb1.mono (by simp))⟩

set_option maxHeartbeats 1000000 in
theorem refOf2 (y1 y2 : Value) (c a : Int) (sl : List (ByteArray × Int)) (hl : sl.length ≤ 61) (w : World) (hw : WayAt w y1 y2 sl) :
    Calls Tryd.prog 10 #[.agg #[y1, y2, .int .i64 2, .int .i64 c, .int .i64 a]] w fun ev w' => ev = .returned (.tuple #[.int .i64 c, .int .i64 (innerAt sl)]) ∧ Below w.heap.size w w' := by
  have hw2 := WayAt.ext hw ((Below.refl w.heap.size w).alloc (Nat.le_refl _) (.cells #[y1, y2, .int .i64 2, .int .i64 c, .int .i64 a] 29))
  have HW := Lib.hid (WayAt.ext hw2 (Below.refl _ _).drew)
  clear hw2
  obtain ⟨a1, m1, a2, m2, rfl, rfl, _⟩ := hw
  have K := heap_alloc_new w (.cells #[.slice a1 sl.length m1, .slice a2 sl.length m2, .int .i64 2, .int .i64 c, .int .i64 a] 29)
  have Kd : (w.alloc (.cells #[.slice a1 sl.length m1, .slice a2 sl.length m2, .int .i64 2, .int .i64 c, .int .i64 a] 29)).drew.heap[w.heap.size]? = _ := K
  have HK := Lib.hid Kd
  clear Kd
  clear K
  go_enter Tryd.func10, Tryd.ntmps10
  go_wp2
  go_region_with (go_at_call 20; refine (inner_any _ _ _ _ _ sl hl _ HW.out).mono ?_; rintro e w1 ⟨rfl, hb1⟩; have k3 := block_cell (block_below HK.out hb1) 3; simp at k3)
  all_goals go_wp2
  all_goals go_ret2
  all_goals exact ⟨rfl, (((Below.refl _ _).alloc (Nat.le_refl _) _).drew).trans (hb1.mono (by simp))⟩

theorem refIs (y1 y2 : Value) (e c a n : Int) (sl : List (ByteArray × Int)) (w : World) (hw : WayAt w y1 y2 sl) :
    Calls Tryd.prog 16 #[.agg #[y1, y2, .int .i64 e, .int .i64 c, .int .i64 a], .int .i64 n] w fun ev w' => ev = .returned (.bool (decide (0 < e) && c == n)) ∧ Below w.heap.size w w' := by
  obtain ⟨a1, m1, a2, m2, rfl, rfl, _⟩ := hw
  by_cases h : 0 < e
  · have hd : decide (0 < e) = true := by simpa using h
    go_enter Tryd.func16, Tryd.ntmps16
    go_wp2
    go_ret
    exact ⟨by simp [h], (Below.refl _ _).alloc (Nat.le_refl _) _⟩
  · have hd : decide (0 < e) = false := by simpa using h
    go_enter Tryd.func16, Tryd.ntmps16
    go_wp2
    go_ret
    exact ⟨by simp, (Below.refl _ _).alloc (Nat.le_refl _) _⟩
end Go.Proofs.YtpeoodljchpadaaDoor
