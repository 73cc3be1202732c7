/-
  The walk of Awake, the document's example: true. Conditions: errors.errorType holds its type's handle.
-/
import Derived.Test.YtpeoodljchpadaaDoorOf
import Derived.Lib.Hide
namespace Go.Proofs.YtpeoodljchpadaaDoor
open Go.RowKit Go.Extern.Stop Go.Stop Go.Extern

def awL : List (ByteArray × Int) := [(⟨#[97]⟩, 1), (⟨#[98]⟩, 2)]
def awV : Value := .iface 47 (.agg #[.string ⟨#[97]⟩, .int .i64 1, .iface 47 (.agg #[.string ⟨#[98]⟩, .int .i64 2, .iface 35 (.agg #[.int .i64 13, .int .i64 7])])])
theorem awE : awV = chain awL (fltV 13 7) := rfl

theorem words_aw (w : World) : Calls Tryd.prog 13 #[awV] w fun ev w' => ∃ v, ev = .returned v ∧ w'.ownsRow w.heap.size 9 1 v 2 [.string ⟨#[97]⟩, .string ⟨#[98]⟩] ∧ Below w.heap.size w w' := by
  rw [awE]
  exact words_any awL (fltV 13 7) (Or.inr (Or.inr ⟨_, _, rfl⟩)) (by decide) w
theorem depth_aw (w : World) : Calls Tryd.prog 14 #[awV] w fun ev w' => ev = .returned (.int .i64 2) ∧ Below w.heap.size w w' := by
  rw [awE]
  exact depth_any awL (fltV 13 7) (Or.inr (Or.inr ⟨_, _, rfl⟩)) (by decide) w
theorem of_aw (w : World) (hg : w.cell? ⟨0, 0, none⟩ = some (rty 38)) : Calls Tryd.prog 11 #[awV] w fun ev w' => ev = .returned (.agg #[.int .i64 13, .int .i64 7]) ∧ Below w.heap.size w w' := by
  rw [awE]
  exact Of_flt 13 7 awL w hg

set_option maxRecDepth 100000 in
set_option maxHeartbeats 2000000 in
theorem awake (w : World) (hg : w.cell? ⟨0, 0, none⟩ = some (rty 38)) : Calls Tryd.prog 8 #[] w fun ev w' => ev = .returned (.bool true) ∧ Below w.heap.size w w' := by
  have HG := Lib.hid hg
  clear hg
  go_enter Tryd.func8, Tryd.ntmps8
  go_wp2_with (go_at_call 17; refine (under_some _ _ _ _ _).mono ?_; rintro e w' ⟨rfl, rfl⟩)
  refine (words_aw _).mono ?_
  rintro e w1 ⟨v, rfl, hown, hb1⟩
  rcases owned_shape hown with ⟨_, h0⟩ | ⟨g, cap, rfl, _, hgl, _, hc⟩
  · simp at h0
  have c0 := hc 0 (by simp)
  have c1 := hc 1 (by simp)
  simp at c0 c1
  clear hown hc
  have G1 := HG.out
  have HG1 := Lib.hid (show w1.cell? ⟨0, 0, none⟩ = some (rty 38) from cell_below G1 hb1)
  clear G1
  go_wp2_with fail
  refine (of_aw _ HG1.out).mono ?_
  rintro e w2 ⟨rfl, hb2⟩
  have d0 : w2.cell? ⟨g, 0, none⟩ = some (.string ⟨#[97]⟩) := cell_below c0 hb2
  have d1 : w2.cell? ⟨g, 1, none⟩ = some (.string ⟨#[98]⟩) := cell_below c1 hb2
  clear c0 c1
  have HB := Lib.hid (hb1.trans (hb2.mono hb1.size))
  clear hb1 hb2
  go_wp2_with (go_at_call 14; refine (depth_aw _).mono ?_; rintro e w3 ⟨rfl, hb3⟩)
  go_outline
  go_goals
  go_ret
  exact ⟨rfl, HB.out.trans (hb3.mono HB.out.size)⟩
end Go.Proofs.YtpeoodljchpadaaDoor
