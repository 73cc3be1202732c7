/-
  The walk of FaultFinds. Conditions: the way that comes in is there; errors.errorType holds its type's handle.
-/
import Derived.Test.YtpeoodljchpadaaDoorJoin
import Derived.Test.YtpeoodljchpadaaDoorNone
namespace Go.Proofs.YtpeoodljchpadaaDoor
open Go.RowKit Go.Extern.Stop Go.Stop Go.Extern

/-- the rows of a way that comes in: its words; its places, as many as there are -/
def WayIn (w : World) (a1 a2 : Option Addr) (n2 : Nat) (pl : List (ByteArray × Int)) : Prop :=
  (pl.length = 0 ∨ ∃ b o, a1 = some ⟨b, o, none⟩ ∧ b < w.heap.size ∧ ∀ k (h : k < pl.length), w.cell? ⟨b, o + k, none⟩ = some (.string pl[k].1)) ∧
  (n2 = 0 ∨ ∃ b o, a2 = some ⟨b, o, none⟩ ∧ b < w.heap.size ∧ ∀ k (h : k < pl.length), k < n2 → w.cell? ⟨b, o + k, none⟩ = some (.int .i64 pl[k].2)) ∧
  (∀ k (h : k < pl.length), n2 ≤ k → pl[k].2 = 0)
theorem WayIn.ext {w w' : World} {a1 a2 : Option Addr} {n2 : Nat} {pl : List (ByteArray × Int)} (h : WayIn w a1 a2 n2 pl) (hb : Below w.heap.size w w') : WayIn w' a1 a2 n2 pl := by
  have hs := hb.size
  refine ⟨h.1.imp id ?_, h.2.1.imp id ?_, h.2.2⟩
  · rintro ⟨b, o, e, hlt, hc⟩
    exact ⟨b, o, e, by omega, fun k hk => by rw [hb.cell (p := ⟨b, o + k, none⟩) hlt]; exact hc k hk⟩
  · rintro ⟨b, o, e, hlt, hc⟩
    exact ⟨b, o, e, by omega, fun k hk h2 => by rw [hb.cell (p := ⟨b, o + k, none⟩) hlt]; exact hc k hk h2⟩

theorem few_yes (a1 a2 : Option Addr) (n1 c1 n2 c2 : Nat) (en code at_ : Int) (w : World) (hn : n1 ≤ 60) :
    Calls Tryd.prog 7 #[.agg #[.slice a1 n1 c1, .slice a2 n2 c2, .int .u8 en, .int .i64 code, .int .i64 at_]] w fun ev w' => ev = .returned (.bool true) ∧ Below w.heap.size w w' :=
  (few_any a1 a2 n1 c1 n2 c2 en code at_ w (by omega)).mono fun _ _ ⟨h1, h2⟩ => ⟨by rw [h1]; simp [hn], h2⟩
theorem few_no (a1 a2 : Option Addr) (n1 c1 n2 c2 : Nat) (en code at_ : Int) (w : World) (hm : n1 ≤ 9223372036854775807) (hn : ¬ n1 ≤ 60) :
    Calls Tryd.prog 7 #[.agg #[.slice a1 n1 c1, .slice a2 n2 c2, .int .u8 en, .int .i64 code, .int .i64 at_]] w fun ev w' => ev = .returned (.bool false) ∧ Below w.heap.size w w' :=
  (few_any a1 a2 n1 c1 n2 c2 en code at_ w hm).mono fun _ _ ⟨h1, h2⟩ => ⟨by rw [h1]; simp [hn], h2⟩

/-- 'of', its rows told as a way -/
theorem of_way (a1 a2 : Option Addr) (c1 n2 c2 : Nat) (pl : List (ByteArray × Int)) (en : Int) (hen : 0 ≤ en) (hen2 : en ≤ 255) (code at_ : Int) (w : World) (h60 : pl.length ≤ 60) (hn2 : n2 ≤ 9223372036854775807) (hw : WayIn w a1 a2 n2 pl) :
    Calls Tryd.prog 9 #[.agg #[.slice a1 pl.length c1, .slice a2 n2 c2, .int .u8 en, .int .i64 code, .int .i64 at_]] w fun ev w' => ∃ b1 m1 b2 m2, ev = .returned (.agg #[.slice b1 (stepsOf pl (en % 3) at_).length m1, .slice b2 (stepsOf pl (en % 3) at_).length m2, .int .i64 (en % 3), .int .i64 code, .int .i64 at_]) ∧
      WayAt w' (.slice b1 (stepsOf pl (en % 3) at_).length m1) (.slice b2 (stepsOf pl (en % 3) at_).length m2) (stepsOf pl (en % 3) at_) ∧ Below w.heap.size w w' :=
  (of_any a1 a2 c1 n2 c2 pl en hen hen2 code at_ w h60 hn2 hw.1 hw.2.1 hw.2.2).mono fun _ _ ⟨y1, y2, h1, h2, h3, h4⟩ => by
    have hW := way_of h2 h3
    have hW' := hW
    obtain ⟨b1, m1, b2, m2, e1, e2, _⟩ := hW
    rw [e1, e2] at hW' h1
    exact ⟨b1, m1, b2, m2, h1, hW', h4⟩
theorem stepsOf_len (pl : List (ByteArray × Int)) (e a : Int) (h : pl.length ≤ 60) : (stepsOf pl e a).length ≤ 61 := by
  unfold stepsOf
  split
  · simp; omega
  · omega

theorem carry4 {w0 w w1 : World} {g : Value} {cs : Array Value} {t : TypeId} (HG : Hid (w.cell? ⟨0, 0, none⟩ = some g)) (hb : Hid (Below w0.heap.size w0 w)) (h : Below (w.alloc (.cells cs t)).heap.size (w.alloc (.cells cs t)) w1) :
    Hid (w1.cell? ⟨0, 0, none⟩ = some g) ∧ Hid (w1.heap[w.heap.size]? = some (.cells cs t (0, 0))) ∧ Hid (Below w0.heap.size w0 w1) :=
  ⟨cell_below (cell_alloc HG.out _) h, block_below (heap_alloc_new w _) h, (hb.out.alloc hb.out.size _).trans (h.mono (hb.out.alloc hb.out.size _).size)⟩

set_option maxRecDepth 100000 in
set_option maxHeartbeats 4000000 in
theorem finds_far (a1 a2 : Option Addr) (n1 c1 n2 c2 : Nat) (en code at_ : Int) (w : World) (hm : n1 ≤ 9223372036854775807) (hn : ¬ n1 ≤ 60) (hg : w.cell? ⟨0, 0, none⟩ = some (rty 38)) :
    Calls Tryd.prog 3 #[.agg #[.slice a1 n1 c1, .slice a2 n2 c2, .int .u8 en, .int .i64 code, .int .i64 at_]] w fun ev w' => ev = .returned (.bool true) ∧ Below w.heap.size w w' := by
  have HG := Lib.hid hg
  clear hg
  go_enter Tryd.func3, Tryd.ntmps3
  go_wp2_with fail
  refine (few_no a1 a2 n1 c1 n2 c2 en code at_ _ hm hn).mono ?_
  rintro e w1 ⟨rfl, hb1⟩
  obtain ⟨HG1, HB1⟩ : Hid (w1.cell? ⟨0, 0, none⟩ = some (rty 38)) ∧ Hid (Below w.heap.size w w1) := ⟨cell_below (cell_alloc HG.out _) hb1, ((Below.refl _ _).alloc (Nat.le_refl _) _).trans (hb1.mono (by simp))⟩
  clear hb1
  go_wp2_with fail
  refine (awake _ HG1.out).mono ?_
  rintro e w2 ⟨rfl, hb2⟩
  have HB2 := Lib.hid (HB1.out.trans (hb2.mono HB1.out.size))
  clear hb2
  go_wp2
  go_ret
  exact ⟨rfl, HB2.out⟩

set_option maxRecDepth 100000 in
set_option maxHeartbeats 4000000 in
theorem finds_near (a1 a2 : Option Addr) (c1 n2 c2 : Nat) (pl : List (ByteArray × Int)) (en : Int) (hen : 0 ≤ en) (hen2 : en ≤ 255) (code at_ : Int) (w : World) (h60 : pl.length ≤ 60) (hn2 : n2 ≤ 9223372036854775807) (hw : WayIn w a1 a2 n2 pl) (hg : w.cell? ⟨0, 0, none⟩ = some (rty 38)) :
    Calls Tryd.prog 3 #[.agg #[.slice a1 pl.length c1, .slice a2 n2 c2, .int .u8 en, .int .i64 code, .int .i64 at_]] w fun ev w' => ev = .returned (.bool true) ∧ Below w.heap.size w w' := by
  have HG := Lib.hid hg
  have HW := Lib.hid hw
  clear hg hw
  have he : en % 3 = 0 ∨ en % 3 = 1 ∨ en % 3 = 2 := mod3 en
  have c1' := fun y1 y2 w hw => refOf_any y1 y2 (en % 3) code at_ he (stepsOf pl (en % 3) at_) (stepsOf_len pl _ _ h60) w hw
  have c2' := fun w hg => ofWay (en % 3) code at_ he pl (stepsOf_len pl _ _ h60) w hg
  generalize (refPair (en % 3) code at_ (stepsOf pl (en % 3) at_)).1 = r1 at c1' c2'
  generalize (refPair (en % 3) code at_ (stepsOf pl (en % 3) at_)).2 = r2 at c1' c2'
  have C1 := Lib.hid (fun y1 y2 => c1' y1 y2)
  have C2 := Lib.hid (fun w => c2' w)
  have HE := Lib.hid he
  clear c1' c2' he
  go_enter Tryd.func3, Tryd.ntmps3
  go_wp2_with fail
  refine (few_yes a1 a2 pl.length c1 n2 c2 en code at_ _ h60).mono ?_
  rintro e w1 ⟨rfl, hb1⟩
  obtain ⟨HG1, HK1, HB1⟩ := carry HG (heap_alloc_new w (.cells #[.slice a1 pl.length c1, .slice a2 n2 c2, .int .u8 en, .int .i64 code, .int .i64 at_] 25)) ((Below.refl _ _).alloc (Nat.le_refl _) _) hb1
  have HW1 := Lib.hid (HW.out.ext HB1.out)
  have d0 := block_cell HK1.out 0
  have d1 := block_cell HK1.out 1
  have d2 := block_cell HK1.out 2
  have d3 := block_cell HK1.out 3
  have d4 := block_cell HK1.out 4
  simp at d0 d1 d2 d3 d4
  clear hb1
  go_wp2_with fail
  refine (of_way a1 a2 c1 n2 c2 pl en hen hen2 code at_ _ h60 hn2 HW1.out).mono ?_
  rintro e w2 ⟨b1, m1, b2, m2, rfl, hA, hb2⟩
  obtain ⟨HG2, _, HB2⟩ := carry3 HG1 HK1 HB1 hb2
  clear hb2 d0 d1 d2 d3 d4
  have hlen := stepsOf_len pl (en % 3) at_ h60
  have HL := Lib.hid hlen
  clear hlen
  go_wp2_with fail
  refine (C1.out _ _ _ (hA.ext ((Below.refl _ _).alloc (Nat.le_refl _) _))).mono ?_
  rintro e w3 ⟨rfl, hb3⟩
  have HA3 := Lib.hid ((hA.ext ((Below.refl _ _).alloc (Nat.le_refl _) _)).ext hb3)
  obtain ⟨HG3, HM3, HB3⟩ := carry4 HG2 HB2 hb3
  clear hb3 hA
  go_wp2_with fail
  refine (awake _ HG3.out).mono ?_
  rintro e w4 ⟨rfl, hb4⟩
  have HA4 := Lib.hid (HA3.out.ext hb4)
  obtain ⟨HG4, HM4, HB4⟩ := carry3 HG3 HM3 HB3 hb4
  clear hb4
  have d0 := block_cell HM4.out 0
  have d1 := block_cell HM4.out 1
  have d2 := block_cell HM4.out 2
  have d3 := block_cell HM4.out 3
  have d4 := block_cell HM4.out 4
  simp at d0 d1 d2 d3 d4
  go_wp2_with fail
  refine (way_any _ _ (en % 3) code at_ HE.out pl HL.out _ HA4.out).mono ?_
  rintro e w5 ⟨rfl, hb5⟩
  obtain ⟨HG5, _, HB5⟩ := carry3 HG4 HM4 HB4 hb5
  clear hb5 d0 d1 d2 d3 d4
  go_wp2_with fail
  refine (C2.out _ HG5.out).mono ?_
  rintro e w6 ⟨rfl, hb6⟩
  have HB6 := Lib.hid (HB5.out.trans (hb6.mono HB5.out.size))
  clear hb6
  go_wp2
  go_ret
  exact ⟨rfl, HB6.out⟩
end Go.Proofs.YtpeoodljchpadaaDoor
