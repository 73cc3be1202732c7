/-
  The walk of FaultWords. Conditions: the way that comes in is there; errors.errorType holds its type's handle.
-/
import Derived.Test.YtpeoodljchpadaaDoorFinds
import Derived.Deep.QuietTactic
import Derived.BigQuiet
namespace Go.Proofs.YtpeoodljchpadaaDoor
open Go.RowKit Go.Extern.Stop Go.Stop Go.Extern

set_option maxRecDepth 100000 in
set_option maxHeartbeats 4000000 in
theorem tells_far (a1 a2 : Option Addr) (n1 c1 n2 c2 : Nat) (en code at_ : Int) (w : World) (hm : n1 ≤ 9223372036854775807) (hn : ¬ n1 ≤ 60) (hg : w.cell? ⟨0, 0, none⟩ = some (rty 38)) :
    Calls Tryd.prog 4 #[.agg #[.slice a1 n1 c1, .slice a2 n2 c2, .int .u8 en, .int .i64 code, .int .i64 at_]] w fun ev w' => ev = .returned (.bool true) ∧ Below w.heap.size w w' := by
  have HG := Lib.hid hg
  clear hg
  go_enter Tryd.func4, Tryd.ntmps4
  go_wp2_with fail
  refine (few_no a1 a2 n1 c1 n2 c2 en code at_ _ hm hn).mono ?_
  rintro e w1 ⟨rfl, hb1⟩
  obtain ⟨HG1, HB1⟩ : Hid (w1.cell? ⟨0, 0, none⟩ = some (rty 38)) ∧ Hid (Below w.heap.size w w1) := ⟨cell_below (cell_alloc HG.out _) hb1, ((Below.refl _ _).alloc (Nat.le_refl _) _).trans (hb1.mono (by simp))⟩
  clear hb1
  go_wp2_with fail
  refine (awake _ HG1.out).mono ?_
  rintro e w2 ⟨rfl, hb2⟩
  have HB2 := Lib.hid (HB1.out.trans (hb2.mono HB1.out.size))
  clear hb2
  go_wp2
  go_ret
  exact ⟨rfl, HB2.out⟩

theorem wayE_kind (e c a : Int) (he : e = 0 ∨ e = 1 ∨ e = 2) : wayE e c a = .nilIface ∨ (∃ m, wayE e c a = numV m) ∨ ∃ c' a', wayE e c a = fltV c' a' := by
  rcases he with rfl | rfl | rfl
  · exact Or.inl rfl
  · exact Or.inr (Or.inr ⟨_, _, rfl⟩)
  · exact Or.inr (Or.inl ⟨_, rfl⟩)

theorem strs_get {w : World} {g : Nat} {sl : List (ByteArray × Int)} (hc : ∀ j, j < (strs sl).length → w.cell? ⟨g, j, none⟩ = (strs sl)[j]?) (k : Nat) (hk : k < sl.length) : w.cell? ⟨g, k, none⟩ = some (.string sl[k].1) := by
  rw [hc k (by simpa [strs] using hk)]
  simp [strs, hk]

set_option maxRecDepth 100000 in
set_option maxHeartbeats 4000000 in
theorem tells_near (a1 a2 : Option Addr) (c1 n2 c2 : Nat) (pl : List (ByteArray × Int)) (en : Int) (hen : 0 ≤ en) (hen2 : en ≤ 255) (code at_ : Int) (w : World) (h60 : pl.length ≤ 60) (hn2 : n2 ≤ 9223372036854775807) (hw : WayIn w a1 a2 n2 pl) (hg : w.cell? ⟨0, 0, none⟩ = some (rty 38)) :
    Calls Tryd.prog 4 #[.agg #[.slice a1 pl.length c1, .slice a2 n2 c2, .int .u8 en, .int .i64 code, .int .i64 at_]] w fun ev w' => ev = .returned (.bool true) ∧ Below w.heap.size w w' := by
  have HG := Lib.hid hg
  have HW := Lib.hid hw
  clear hg hw
  have he : en % 3 = 0 ∨ en % 3 = 1 ∨ en % 3 = 2 := mod3 en
  have hlen := stepsOf_len pl (en % 3) at_ h60
  have c9 := fun w hw => of_way a1 a2 c1 n2 c2 pl en hen hen2 code at_ w h60 hn2 hw
  have c12 := fun y1 y2 w hw => way_any y1 y2 (en % 3) code at_ he pl hlen w hw
  have c13 := fun w => words_any (stepsOf pl (en % 3) at_) (wayE (en % 3) code at_) (wayE_kind _ _ _ he) (by omega) w
  have c14 := fun w => depth_any (stepsOf pl (en % 3) at_) (wayE (en % 3) code at_) (wayE_kind _ _ _ he) (by omega) w
  generalize chain (stepsOf pl (en % 3) at_) (wayE (en % 3) code at_) = X at c12 c13 c14
  generalize stepsOf pl (en % 3) at_ = sl at hlen c9 c12 c13 c14
  have C9 := Lib.hid c9
  have C12 := Lib.hid (fun y1 y2 => c12 y1 y2)
  have C13 := Lib.hid (fun w => c13 w)
  have C14 := Lib.hid (fun w => c14 w)
  clear c9 c12 c13 c14 he
  go_enter Tryd.func4, Tryd.ntmps4
  go_wp2_with fail
  refine (few_yes a1 a2 pl.length c1 n2 c2 en code at_ _ h60).mono ?_
  rintro e w1 ⟨rfl, hb1⟩
  obtain ⟨HG1, HK1, HB1⟩ := carry HG (heap_alloc_new w (.cells #[.slice a1 pl.length c1, .slice a2 n2 c2, .int .u8 en, .int .i64 code, .int .i64 at_] 25)) ((Below.refl _ _).alloc (Nat.le_refl _) _) hb1
  have HW1 := Lib.hid (HW.out.ext HB1.out)
  have d0 := block_cell HK1.out 0
  have d1 := block_cell HK1.out 1
  have d2 := block_cell HK1.out 2
  have d3 := block_cell HK1.out 3
  have d4 := block_cell HK1.out 4
  simp at d0 d1 d2 d3 d4
  clear hb1
  go_wp2_with fail
  refine (C9.out _ HW1.out).mono ?_
  rintro e w2 ⟨b1, m1, b2, m2, rfl, hA, hb2⟩
  obtain ⟨HG2, _, HB2⟩ := carry3 HG1 HK1 HB1 hb2
  clear hb2 d0 d1 d2 d3 d4
  go_wp2_with fail
  refine (C12.out _ _ _ (hA.ext ((Below.refl _ _).alloc (Nat.le_refl _) _))).mono ?_
  rintro e w3 ⟨rfl, hb3⟩
  have HA3 := Lib.hid ((hA.ext ((Below.refl _ _).alloc (Nat.le_refl _) _)).ext hb3)
  obtain ⟨HG3, HM3, HB3⟩ := carry4 HG2 HB2 hb3
  clear hb3 hA
  go_wp2_with fail
  refine (C13.out _).mono ?_
  rintro e w4 ⟨v, rfl, hown, hb4⟩
  have HA4 := Lib.hid (HA3.out.ext hb4)
  obtain ⟨HG4, HM4, HB4⟩ := carry3 HG3 HM3 HB3 hb4
  have hs3 := HB3.out.size
  clear hb4
  have hsh : (v = .slice none 0 0 ∧ sl.length = 0) ∨ ∃ g cap, v = .slice (some ⟨g, 0, none⟩) sl.length cap ∧ g < w4.heap.size ∧ ∀ k (h : k < sl.length), w4.cell? ⟨g, k, none⟩ = some (.string sl[k].1) := by
    rcases owned_shape hown with h | ⟨g, cap, h, _, hlt, _, hc⟩
    · exact Or.inl h
    · exact Or.inr ⟨g, cap, h, hlt, strs_get hc⟩
  have d0 := block_cell HM4.out 0
  simp at d0
  clear hown
  obtain ⟨a1', m1', a2', m2', e1', e2', hrow⟩ := HA4.out
  cases e1'
  cases e2'
  rcases hsh with ⟨rfl, h0⟩ | ⟨g, cap, rfl, hlt, hcc⟩
  · have hsl : sl = [] := List.length_eq_zero_iff.1 h0
    subst hsl
    clear hrow h0
    go_wp2_with fail
    refine (C14.out _).mono ?_
    rintro e w5 ⟨rfl, hb5⟩
    obtain ⟨HG5, _, HB5⟩ := carry3 HG4 HM4 HB4 hb5
    clear hb5 d0
    go_wp2_with fail
    go_loop [32] (fun i => i = .int .i64 0) (fun _ => 0)
    case atStart => rfl
    case round =>
      obtain rfl := hrel
      go_wp2_with fail
      refine (awake _ HG5.out).mono ?_
      rintro e w6 ⟨rfl, hb6⟩
      have HB6 := Lib.hid (HB5.out.trans (hb6.mono HB5.out.size))
      clear hb6
      go_wp2
      go_ret
      exact ⟨rfl, HB6.out⟩
  · go_wp2_with fail
    refine (C14.out _).mono ?_
    rintro e w5 ⟨rfl, hb5⟩
    obtain ⟨HG5, HM5, HB5⟩ := carry3 HG4 HM4 HB4 hb5
    have hs5 := hb5.size
    have HB45 := Lib.hid hb5
    have hcw : ∀ k (h : k < sl.length), w5.cell? ⟨g, k, none⟩ = some (.string sl[k].1) := fun k h => by rw [hb5.cell (p := ⟨g, k, none⟩) hlt]; exact hcc k h
    have HCW := Lib.hid hcw
    have d0 := block_cell HM5.out 0
    simp at d0
    clear hb5 hcc hcw
    have HROW := Lib.hid hrow
    clear hrow
    go_wp2_with fail
    have hm62 : sl.length ≤ 62 := by omega
    have hz5 : w2.heap.size < w5.heap.size := lt_of_block' HM5.out
    clear hlen d0
    go_loopw [32] (fun i wr => ∃ k : Nat, k ≤ sl.length ∧ i = .int .i64 k ∧ Below w5.heap.size w5 wr) (fun i _ => sl.length - (intOf i).toNat)
    case atStart => exact ⟨0, Nat.zero_le _, rfl, Below.refl _ _⟩
    case round =>
      obtain ⟨k, hk, rfl, hbr⟩ := hrel
      by_cases hkl : k < sl.length
      · obtain ⟨g1, g2, rfl, rfl, hg1, hg2, hcr⟩ : ∃ g1 g2, b1 = some ⟨g1, 0, none⟩ ∧ b2 = some ⟨g2, 0, none⟩ ∧ g1 < w4.heap.size ∧ g2 < w4.heap.size ∧ ∀ k (h : k < sl.length), w4.cell? ⟨g1, k, none⟩ = some (.string sl[k].1) ∧ w4.cell? ⟨g2, k, none⟩ = some (.int .i64 sl[k].2) := by
          rcases HROW.out with h | h
          · rw [h] at hkl; simp at hkl
          · exact h
        have x0 : wr.cell? ⟨g1, k, none⟩ = some (.string sl[k].1) := by rw [hbr.cell (p := ⟨g1, k, none⟩) (by show g1 < _; omega)]; exact (HB45.out.cell (p := ⟨g1, k, none⟩) hg1).trans (hcr k hkl).1
        have x1 : wr.cell? ⟨g, k, none⟩ = some (.string sl[k].1) := by rw [hbr.cell (p := ⟨g, k, none⟩) (by show g < _; omega)]; exact HCW.out k hkl
        have x2 := block_cell (block_below' HM5.out hbr) 0
        simp at x2
        have i0 : (0 : Int) ≤ (k : Int) := by omega
        have i1 : (k : Int) < (sl.length : Int) := by omega
        clear hcr
        generalize sl[k].1 = s1 at *
        go_wp2
        go_quiet (fail)
        go_wp2
        go_roundw
        case rel => exact ⟨k + 1, by omega, by go_num, below_drewN hbr _⟩
        case measure => simp [intOf]; omega
      · have hk' : k = sl.length := by omega
        subst hk'
        have HBr := Lib.hid (HB5.out.trans (hbr.mono HB5.out.size))
        have HGr := Lib.hid (show wr.cell? ⟨0, 0, none⟩ = some (rty 38) from cell_below HG5.out hbr)
        clear hbr
        go_wp2_with fail
        refine (awake _ HGr.out).mono ?_
        rintro e w6 ⟨rfl, hb6⟩
        have HB6 := Lib.hid (HBr.out.trans (hb6.mono HBr.out.size))
        clear hb6
        go_wp2
        go_ret
        exact ⟨rfl, HB6.out⟩
end Go.Proofs.YtpeoodljchpadaaDoor
