/-
  The walk of FaultIs. Conditions: the way that comes in is there; errors.errorType holds its type's handle.
-/
import Derived.Test.YtpeoodljchpadaaDoorTells
import Derived.Deep.RegionHeld3
namespace Go.Proofs.YtpeoodljchpadaaDoor
open Go.RowKit Go.Extern.Stop Go.Stop Go.Extern

set_option maxRecDepth 100000 in
set_option maxHeartbeats 4000000 in
theorem has_far (a1 a2 : Option Addr) (n1 c1 n2 c2 : Nat) (en code at_ n : Int) (w : World) (hm : n1 ≤ 9223372036854775807) (hn : ¬ n1 ≤ 60) (hg : w.cell? ⟨0, 0, none⟩ = some (rty 38)) :
    Calls Tryd.prog 5 #[.agg #[.slice a1 n1 c1, .slice a2 n2 c2, .int .u8 en, .int .i64 code, .int .i64 at_], .int .i64 n] w fun ev w' => ev = .returned (.bool true) ∧ Below w.heap.size w w' := by
  have HG := Lib.hid hg
  clear hg
  go_enter Tryd.func5, Tryd.ntmps5
  go_wp2_with fail
  refine (few_no a1 a2 n1 c1 n2 c2 en code at_ _ hm hn).mono ?_
  rintro e w1 ⟨rfl, hb1⟩
  obtain ⟨HG1, HB1⟩ : Hid (w1.cell? ⟨0, 0, none⟩ = some (rty 38)) ∧ Hid (Below w.heap.size w w1) := ⟨cell_below (cell_alloc HG.out _) hb1, ((Below.refl _ _).alloc (Nat.le_refl _) _).trans (hb1.mono (by simp))⟩
  clear hb1
  go_wp2_with fail
  refine (awake _ HG1.out).mono ?_
  rintro e w2 ⟨rfl, hb2⟩
  have HB2 := Lib.hid (HB1.out.trans (hb2.mono HB1.out.size))
  clear hb2
  go_wp2
  go_ret
  exact ⟨rfl, HB2.out⟩

theorem way_iface (e c a : Int) (he : e = 0 ∨ e = 1 ∨ e = 2) (pl : List (ByteArray × Int)) : ∃ t v, chain (stepsOf pl e a) (wayE e c a) = .iface t v := by
  rcases he with rfl | rfl | rfl
  · have hne : stepsOf pl 0 a ≠ [] := by simp [stepsOf]
    generalize stepsOf pl 0 a = sl at *
    cases sl with
    | nil => exact absurd rfl hne
    | cons p l => exact ⟨_, _, rfl⟩
  · exact chain_iface _ 35 (.agg #[.int .i64 c, .int .i64 a])
  · exact chain_iface _ 33 (.int .i64 c)

set_option maxRecDepth 100000 in
theorem isF_way (e c a n : Int) (he : e = 0 ∨ e = 1 ∨ e = 2) (pl : List (ByteArray × Int)) (w : World) :
    Calls Tryd.prog 15 #[chain (stepsOf pl e a) (wayE e c a), .int .i64 n] w fun ev w' => ev = .returned (.bool (decide (0 < e) && c == n)) ∧ Below w.heap.size w w' := by
  obtain ⟨t, v, hq⟩ := way_iface e c a he pl
  have c24 := fun w => isWay e c a n he pl w
  rw [hq] at c24 ⊢
  generalize (decide (0 < e) && c == n) = b at c24 ⊢
  have C24 := Lib.hid c24
  clear c24 hq he
  go_enter Tryd.func15, Tryd.ntmps15
  go_wp2_with fail
  refine (C24.out _).mono ?_
  rintro e' w1 ⟨rfl, hb1⟩
  have HB := Lib.hid hb1
  clear hb1
  go_wp2
  go_ret
  exact ⟨rfl, HB.out⟩

theorem refIs_any (a1 a2 : Option Addr) (n1 m1 n2 m2 : Nat) (e c a n : Int) (w : World) :
    Calls Tryd.prog 16 #[.agg #[.slice a1 n1 m1, .slice a2 n2 m2, .int .i64 e, .int .i64 c, .int .i64 a], .int .i64 n] w fun ev w' => ev = .returned (.bool (decide (0 < e) && c == n)) ∧ Below w.heap.size w w' := by
  by_cases h : 0 < e
  · have hd : decide (0 < e) = true := by simpa using h
    go_enter Tryd.func16, Tryd.ntmps16
    go_wp2
    go_ret
    exact ⟨by simp [h], (Below.refl _ _).alloc (Nat.le_refl _) _⟩
  · have hd : decide (0 < e) = false := by simpa using h
    go_enter Tryd.func16, Tryd.ntmps16
    go_wp2
    go_ret
    exact ⟨by simp, (Below.refl _ _).alloc (Nat.le_refl _) _⟩

/-- what stays while the law asks: the type's handle, that nothing old has turned -/
def Still (w0 w : World) : Prop := w.cell? ⟨0, 0, none⟩ = some (rty 38) ∧ Below w0.heap.size w0 w
theorem held_on {w0 W W' : World} {M : Nat} {y1 y2 y3 y4 y5 : Value} (h : Still w0 W ∧ W.cell? ⟨M, 0, none⟩ = some y1 ∧ W.cell? ⟨M, 1, none⟩ = some y2 ∧ W.cell? ⟨M, 2, none⟩ = some y3 ∧ W.cell? ⟨M, 3, none⟩ = some y4 ∧ W.cell? ⟨M, 4, none⟩ = some y5) (hb : Below W.heap.size W W') :
    Still w0 W' ∧ W'.cell? ⟨M, 0, none⟩ = some y1 ∧ W'.cell? ⟨M, 1, none⟩ = some y2 ∧ W'.cell? ⟨M, 2, none⟩ = some y3 ∧ W'.cell? ⟨M, 3, none⟩ = some y4 ∧ W'.cell? ⟨M, 4, none⟩ = some y5 :=
  ⟨⟨cell_below h.1.1 hb, h.1.2.trans (hb.mono h.1.2.size)⟩, cell_below h.2.1 hb, cell_below h.2.2.1 hb, cell_below h.2.2.2.1 hb, cell_below h.2.2.2.2.1 hb, cell_below h.2.2.2.2.2 hb⟩
theorem still_end {w0 W : World} {q : Prop} (h : Still w0 W ∧ q) : Below w0.heap.size w0 W := h.1.2
theorem held_start {w0 W : World} {M : Nat} {y1 y2 y3 y4 y5 : Value} {t : TypeId} (hg : W.cell? ⟨0, 0, none⟩ = some (rty 38)) (hb : Below w0.heap.size w0 W) (h : W.heap[M]? = some (.cells #[y1, y2, y3, y4, y5] t (0, 0))) :
    Still w0 W.drew ∧ W.drew.cell? ⟨M, 0, none⟩ = some y1 ∧ W.drew.cell? ⟨M, 1, none⟩ = some y2 ∧ W.drew.cell? ⟨M, 2, none⟩ = some y3 ∧ W.drew.cell? ⟨M, 3, none⟩ = some y4 ∧ W.drew.cell? ⟨M, 4, none⟩ = some y5 := by
  have d0 := block_cell h 0
  have d1 := block_cell h 1
  have d2 := block_cell h 2
  have d3 := block_cell h 3
  have d4 := block_cell h 4
  simp at d0 d1 d2 d3 d4
  exact ⟨⟨hg, hb.drew⟩, d0, d1, d2, d3, d4⟩

set_option maxRecDepth 100000 in
set_option maxHeartbeats 4000000 in
theorem has_near (a1 a2 : Option Addr) (c1 n2 c2 : Nat) (pl : List (ByteArray × Int)) (en : Int) (hen : 0 ≤ en) (hen2 : en ≤ 255) (code at_ n : Int) (w : World) (h60 : pl.length ≤ 60) (hn2 : n2 ≤ 9223372036854775807) (hw : WayIn w a1 a2 n2 pl) (hg : w.cell? ⟨0, 0, none⟩ = some (rty 38)) :
    Calls Tryd.prog 5 #[.agg #[.slice a1 pl.length c1, .slice a2 n2 c2, .int .u8 en, .int .i64 code, .int .i64 at_], .int .i64 n] w fun ev w' => ev = .returned (.bool true) ∧ Below w.heap.size w w' := by
  have HG := Lib.hid hg
  have HW := Lib.hid hw
  clear hg hw
  have he : en % 3 = 0 ∨ en % 3 = 1 ∨ en % 3 = 2 := mod3 en
  have hlen := stepsOf_len pl (en % 3) at_ h60
  have c9 := fun w hw => of_way a1 a2 c1 n2 c2 pl en hen hen2 code at_ w h60 hn2 hw
  have c12 := fun y1 y2 w hw => way_any y1 y2 (en % 3) code at_ he pl hlen w hw
  have c15 := fun w => isF_way (en % 3) code at_ n he pl w
  have c15' := fun w => isF_way (en % 3) code at_ code he pl w
  have c16 := fun a1 m1 a2 m2 w => refIs_any a1 a2 (stepsOf pl (en % 3) at_).length m1 (stepsOf pl (en % 3) at_).length m2 (en % 3) code at_ n w
  rw [show (decide (0 < en % 3) && code == code) = decide (0 < en % 3) by simp] at c15'
  generalize (decide (0 < en % 3) && code == n) = b at c15 c16
  generalize chain (stepsOf pl (en % 3) at_) (wayE (en % 3) code at_) = X at c12 c15 c15'
  generalize stepsOf pl (en % 3) at_ = sl at hlen c9 c12 c15 c15' c16
  have C9 := Lib.hid c9
  have C12 := Lib.hid (fun y1 y2 => c12 y1 y2)
  have C15 := Lib.hid (fun w => c15 w)
  have C15' := Lib.hid (fun w => c15' w)
  have C16 := Lib.hid (fun a1 => c16 a1)
  clear c9 c12 c15 c15' c16 he
  go_enter Tryd.func5, Tryd.ntmps5
  go_wp2_with fail
  refine (few_yes a1 a2 pl.length c1 n2 c2 en code at_ _ h60).mono ?_
  rintro e w1 ⟨rfl, hb1⟩
  obtain ⟨HG1, HK1, HB1⟩ := carry HG (heap_alloc_new w (.cells #[.slice a1 pl.length c1, .slice a2 n2 c2, .int .u8 en, .int .i64 code, .int .i64 at_] 25)) ((Below.refl _ _).alloc (Nat.le_refl _) _) hb1
  have HW1 := Lib.hid (HW.out.ext HB1.out)
  have d0 := block_cell HK1.out 0
  have d1 := block_cell HK1.out 1
  have d2 := block_cell HK1.out 2
  have d3 := block_cell HK1.out 3
  have d4 := block_cell HK1.out 4
  simp at d0 d1 d2 d3 d4
  clear hb1
  go_wp2_with fail
  refine (C9.out _ HW1.out).mono ?_
  rintro e w2 ⟨b1, m1, b2, m2, rfl, hA, hb2⟩
  obtain ⟨HG2, _, HB2⟩ := carry3 HG1 HK1 HB1 hb2
  clear hb2 d0 d1 d2 d3 d4
  go_wp2_with fail
  refine (C12.out _ _ _ (hA.ext ((Below.refl _ _).alloc (Nat.le_refl _) _))).mono ?_
  rintro e w3 ⟨rfl, hb3⟩
  obtain ⟨HG3, HM3, HB3⟩ := carry4 HG2 HB2 hb3
  clear hb3 hA
  have HS := Lib.hid (held_start HG3.out HB3.out HM3.out)
  by_cases hpos : 0 < en % 3
  · have hd : decide (0 < en % 3) = true := by simpa using hpos
    rw [hd] at C15'
    go_wp2_with fail
    go_region_held3 (fun w' => Still w w' ∧ w'.cell? ⟨w2.heap.size, 0, none⟩ = some (.slice b1 sl.length m1) ∧ w'.cell? ⟨w2.heap.size, 1, none⟩ = some (.slice b2 sl.length m2) ∧ w'.cell? ⟨w2.heap.size, 2, none⟩ = some (.int .i64 (en % 3)) ∧ w'.cell? ⟨w2.heap.size, 3, none⟩ = some (.int .i64 code) ∧ w'.cell? ⟨w2.heap.size, 4, none⟩ = some (.int .i64 at_))
      (first | exact HS.out | exact held_on (by assumption) (by assumption))
      (first | (go_at_call 8; ((with_reducible refine (awake _ ?_).mono ?_)); (exact (And.left (And.left (by assumption)))); rintro e w' ⟨rfl, hb⟩)
             | (go_at_call 15; ((with_reducible refine (C15.out _).mono ?_)); rintro e w' ⟨rfl, hb⟩)
             | (go_at_call 15; ((with_reducible refine (C15'.out _).mono ?_)); rintro e w' ⟨rfl, hb⟩)
             | (go_at_call 16; ((with_reducible refine (C16.out _ _ _ _ _).mono ?_)); rintro e w' ⟨rfl, hb⟩))
    go_wp2
    go_ret
    exact ⟨rfl, still_end (by assumption)⟩
  · have hd : decide (0 < en % 3) = false := by simpa using hpos
    rw [hd] at C15'
    go_wp2_with fail
    go_region_held3 (fun w' => Still w w' ∧ w'.cell? ⟨w2.heap.size, 0, none⟩ = some (.slice b1 sl.length m1) ∧ w'.cell? ⟨w2.heap.size, 1, none⟩ = some (.slice b2 sl.length m2) ∧ w'.cell? ⟨w2.heap.size, 2, none⟩ = some (.int .i64 (en % 3)) ∧ w'.cell? ⟨w2.heap.size, 3, none⟩ = some (.int .i64 code) ∧ w'.cell? ⟨w2.heap.size, 4, none⟩ = some (.int .i64 at_))
      (first | exact HS.out | exact held_on (by assumption) (by assumption))
      (first | (go_at_call 8; ((with_reducible refine (awake _ ?_).mono ?_)); (exact (And.left (And.left (by assumption)))); rintro e w' ⟨rfl, hb⟩)
             | (go_at_call 15; ((with_reducible refine (C15.out _).mono ?_)); rintro e w' ⟨rfl, hb⟩)
             | (go_at_call 15; ((with_reducible refine (C15'.out _).mono ?_)); rintro e w' ⟨rfl, hb⟩)
             | (go_at_call 16; ((with_reducible refine (C16.out _ _ _ _ _).mono ?_)); rintro e w' ⟨rfl, hb⟩))
    go_wp2
    go_ret
    exact ⟨rfl, still_end (by assumption)⟩
end Go.Proofs.YtpeoodljchpadaaDoor
