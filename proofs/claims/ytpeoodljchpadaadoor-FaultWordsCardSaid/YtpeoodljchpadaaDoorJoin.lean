/-
  The three functions of a law's way joined: what 'of' makes is a way, what fault.Of finds in it and what the document says of it are one. Conditions: at most 61 steps; errors.errorType holds its type's handle.
-/
import Derived.Test.YtpeoodljchpadaaDoorMake
import Derived.Test.YtpeoodljchpadaaDoorWayW
import Derived.Test.YtpeoodljchpadaaDoorRef
import Derived.Test.YtpeoodljchpadaaDoorIs
import Derived.Test.YtpeoodljchpadaaDoorAwake
namespace Go.Proofs.YtpeoodljchpadaaDoor
open Go.RowKit Go.Extern.Stop Go.Stop Go.Extern

theorem way_of {w : World} {B : Nat} {y1 y2 : Value} {sl : List (ByteArray × Int)} (h1 : w.ownsRow B 9 1 y1 sl.length (strs sl)) (h2 : w.ownsRow B 3 1 y2 sl.length (ints sl)) : WayAt w y1 y2 sl := by
  rcases owned_shape h1 with ⟨rfl, h0⟩ | ⟨g1, m1, rfl, _, hg1, _, hc1⟩
  · have hn : sl = [] := List.length_eq_zero_iff.1 h0
    subst hn
    rcases owned_shape h2 with ⟨rfl, _⟩ | ⟨g2, m2, rfl, _⟩
    · exact ⟨_, _, _, _, rfl, rfl, Or.inl rfl⟩
    · exact ⟨_, _, _, _, rfl, rfl, Or.inl rfl⟩
  · rcases owned_shape h2 with ⟨rfl, h0⟩ | ⟨g2, m2, rfl, _, hg2, _, hc2⟩
    · have hn : sl = [] := List.length_eq_zero_iff.1 h0
      subst hn
      exact ⟨_, _, _, _, rfl, rfl, Or.inl rfl⟩
    · refine ⟨_, _, _, _, rfl, rfl, Or.inr ⟨g1, g2, rfl, rfl, hg1, hg2, fun k h => ⟨?_, ?_⟩⟩⟩
      · rw [hc1 k (by simpa [strs] using h)]; simp [strs, h]
      · rw [hc2 k (by simpa [ints] using h)]; simp [ints, h]

/-- the document's code and place -/
def refPair (e c a : Int) (sl : List (ByteArray × Int)) : Int × Int := if e = 1 then (c, a) else if e = 2 then (c, innerAt sl) else (21, innerAt sl)

theorem mod3 (en : Int) : en % 3 = 0 ∨ en % 3 = 1 ∨ en % 3 = 2 := by omega

theorem refOf_any (y1 y2 : Value) (e c a : Int) (he : e = 0 ∨ e = 1 ∨ e = 2) (sl : List (ByteArray × Int)) (hl : sl.length ≤ 61) (w : World) (hw : WayAt w y1 y2 sl) :
    Calls Tryd.prog 10 #[.agg #[y1, y2, .int .i64 e, .int .i64 c, .int .i64 a]] w fun ev w' => ev = .returned (.tuple #[.int .i64 (refPair e c a sl).1, .int .i64 (refPair e c a sl).2]) ∧ Below w.heap.size w w' := by
  rcases he with rfl | rfl | rfl
  · exact refOf0 y1 y2 c a sl hl w hw
  · exact refOf1 y1 y2 c a sl w hw
  · exact refOf2 y1 y2 c a sl hl w hw
theorem way_any (y1 y2 : Value) (e c a : Int) (he : e = 0 ∨ e = 1 ∨ e = 2) (pl : List (ByteArray × Int)) (hl : (stepsOf pl e a).length ≤ 61) (w : World) (hw : WayAt w y1 y2 (stepsOf pl e a)) :
    Calls Tryd.prog 12 #[.agg #[y1, y2, .int .i64 e, .int .i64 c, .int .i64 a]] w fun ev w' => ev = .returned (chain (stepsOf pl e a) (wayE e c a)) ∧ Below w.heap.size w w' := by
  rcases he with rfl | rfl | rfl
  · exact way0 y1 y2 c a pl (stepsOf pl 0 a) rfl hl w hw
  · exact way1 y1 y2 c a (stepsOf pl 1 a) hl w hw
  · exact way2 y1 y2 c a (stepsOf pl 2 a) hl w hw
theorem ofWay (e c a : Int) (he : e = 0 ∨ e = 1 ∨ e = 2) (pl : List (ByteArray × Int)) (hl : (stepsOf pl e a).length ≤ 61) (w : World) (hg : w.cell? ⟨0, 0, none⟩ = some (rty 38)) :
    Calls Tryd.prog 11 #[chain (stepsOf pl e a) (wayE e c a)] w fun ev w' => ev = .returned (.agg #[.int .i64 (refPair e c a (stepsOf pl e a)).1, .int .i64 (refPair e c a (stepsOf pl e a)).2]) ∧ Below w.heap.size w w' := by
  rcases he with rfl | rfl | rfl
  · have hne : stepsOf pl 0 a ≠ [] := by simp [stepsOf]
    generalize stepsOf pl 0 a = sl at *
    cases sl with
    | nil => exact absurd rfl hne
    | cons p l =>
      have h := Of_none p l (by simp only [List.length_cons] at hl; omega) w hg
      rw [← innerAt_get] at h
      exact h
  · exact Of_flt c a (stepsOf pl 1 a) w hg
  · generalize stepsOf pl 2 a = sl at *
    cases sl with
    | nil => exact Of_num0 c w hg
    | cons p l =>
      have h := Of_num c p l (by simp only [List.length_cons] at hl; omega) w hg
      rw [← innerAt_get] at h
      exact h
theorem isWay (e c a n : Int) (he : e = 0 ∨ e = 1 ∨ e = 2) (pl : List (ByteArray × Int)) (w : World) :
    Calls Tryd.prog 24 #[chain (stepsOf pl e a) (wayE e c a), .iface 33 (.int .i64 n)] w fun ev w' => ev = .returned (.bool (decide (0 < e) && c == n)) ∧ Below w.heap.size w w' := by
  rcases he with rfl | rfl | rfl
  · have hne : stepsOf pl 0 a ≠ [] := by simp [stepsOf]
    generalize stepsOf pl 0 a = sl at *
    cases sl with
    | nil => exact absurd rfl hne
    | cons p l => exact Is_nil n p l w
  · exact Is_flt n c a (stepsOf pl 1 a) w
  · exact Is_num n c (stepsOf pl 2 a) w
end Go.Proofs.YtpeoodljchpadaaDoor
