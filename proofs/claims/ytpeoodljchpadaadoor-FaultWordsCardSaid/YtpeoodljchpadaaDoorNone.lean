/-
  The walk of FaultNone: true of every word, place and number. Conditions: errors.errorType holds its type's handle.
-/
import Derived.Test.YtpeoodljchpadaaDoorAwake
import Derived.Test.YtpeoodljchpadaaDoorIs
namespace Go.Proofs.YtpeoodljchpadaaDoor
open Go.RowKit Go.Extern.Stop Go.Stop Go.Extern

theorem error47 (s : ByteArray) (a : Int) (t : Nat) (v : Value) (w : World) : Calls Tryd.prog 18 #[.agg #[.string s, .int .i64 a, .iface t v]] w fun e w' => e = .returned (.string s) ∧ Below w.heap.size w w' := by
  go_enter Tryd.func18, Tryd.ntmps18
  go_wp2
  go_ret
  exact ⟨rfl, (Below.refl _ _).alloc (Nat.le_refl _) _⟩
theorem isF_nil (n : Int) (w : World) : Calls Tryd.prog 15 #[.nilIface, .int .i64 n] w fun e w' => e = .returned (.bool false) ∧ Below w.heap.size w w' := by
  go_enter Tryd.func15, Tryd.ntmps15
  go_wp2
  go_ret
  exact ⟨rfl, Below.refl _ _⟩
theorem words_nil (w : World) : Calls Tryd.prog 13 #[.nilIface] w fun ev w' => ∃ v, ev = .returned v ∧ w'.ownsRow w.heap.size 9 1 v 0 [] ∧ Below w.heap.size w w' :=
  words_any [] .nilIface (Or.inl rfl) (by decide) w
theorem depth_nil (w : World) : Calls Tryd.prog 14 #[.nilIface] w fun ev w' => ev = .returned (.int .i64 0) ∧ Below w.heap.size w w' :=
  depth_any [] .nilIface (Or.inl rfl) (by decide) w
theorem of_one (s : ByteArray) (a n : Int) (w : World) (hg : w.cell? ⟨0, 0, none⟩ = some (rty 38)) :
    Calls Tryd.prog 11 #[.iface 47 (.agg #[.string s, .int .i64 a, .iface 33 (.int .i64 n)])] w fun ev w' => ev = .returned (.agg #[.int .i64 n, .int .i64 a]) ∧ Below w.heap.size w w' :=
  Of_num n (s, a) [] (by decide) w hg
theorem of_bare (n : Int) (w : World) (hg : w.cell? ⟨0, 0, none⟩ = some (rty 38)) :
    Calls Tryd.prog 11 #[.iface 33 (.int .i64 n)] w fun ev w' => ev = .returned (.agg #[.int .i64 n, .int .i64 0]) ∧ Below w.heap.size w w' :=
  Of_num0 n w hg

/-- what is carried over a call: the type's handle, the step's block, that nothing old has turned -/
theorem carry {w w1 : World} {x : Obj} {g : Value} {B : Nat} {cs : Array Value} {t : TypeId} (HG : Hid (w.cell? ⟨0, 0, none⟩ = some g)) (hk : (w.alloc x).heap[B]? = some (.cells cs t (0, 0))) (hb : Below w.heap.size w (w.alloc x)) (h : Below (w.alloc x).heap.size (w.alloc x) w1) :
    Hid (w1.cell? ⟨0, 0, none⟩ = some g) ∧ Hid (w1.heap[B]? = some (.cells cs t (0, 0))) ∧ Hid (Below w.heap.size w w1) :=
  ⟨cell_below (cell_alloc HG.out x) h, block_below hk h, hb.trans (h.mono hb.size)⟩
theorem carry2 {w0 w w1 : World} {x : Obj} {g : Value} {B : Nat} {cs : Array Value} {t : TypeId} (HG : Hid (w.cell? ⟨0, 0, none⟩ = some g)) (hk : Hid (w.heap[B]? = some (.cells cs t (0, 0)))) (hb : Hid (Below w0.heap.size w0 w)) (h : Below (w.alloc x).heap.size (w.alloc x) w1) :
    Hid (w1.cell? ⟨0, 0, none⟩ = some g) ∧ Hid (w1.heap[B]? = some (.cells cs t (0, 0))) ∧ Hid (Below w0.heap.size w0 w1) :=
  ⟨cell_below (cell_alloc HG.out x) h, block_below (block_alloc hk.out x) h, (hb.out.alloc hb.out.size x).trans (h.mono (hb.out.alloc hb.out.size x).size)⟩
theorem carry3 {w0 w w1 : World} {g : Value} {B : Nat} {cs : Array Value} {t : TypeId} (HG : Hid (w.cell? ⟨0, 0, none⟩ = some g)) (hk : Hid (w.heap[B]? = some (.cells cs t (0, 0)))) (hb : Hid (Below w0.heap.size w0 w)) (h : Below w.heap.size w w1) :
    Hid (w1.cell? ⟨0, 0, none⟩ = some g) ∧ Hid (w1.heap[B]? = some (.cells cs t (0, 0))) ∧ Hid (Below w0.heap.size w0 w1) :=
  ⟨cell_below HG.out h, block_below hk.out h, hb.out.trans (h.mono hb.out.size)⟩

set_option maxRecDepth 100000 in
set_option maxHeartbeats 4000000 in
theorem none_any (s : ByteArray) (a n : Int) (w : World) (hg : w.cell? ⟨0, 0, none⟩ = some (rty 38)) :
    Calls Tryd.prog 6 #[.string s, .int .i64 a, .int .i64 n] w fun e w' => e = .returned (.bool true) ∧ Below w.heap.size w w' := by
  have HG := Lib.hid hg
  clear hg
  go_enter Tryd.func6, Tryd.ntmps6
  go_wp2_with (go_at_call 17; refine (under_nil _ _ _).mono ?_; rintro e w' ⟨rfl, hw⟩; subst w')
  refine (error47 _ _ _ _ _).mono ?_
  rintro e w1 ⟨rfl, hb1⟩
  obtain ⟨HG1, HK1, HB1⟩ := carry HG (heap_alloc_new w (.cells #[.string s, .int .i64 a, .iface 33 (.int .i64 n)] 47)) ((Below.refl _ _).alloc (Nat.le_refl _) _) hb1
  have d0 := block_cell HK1.out 0
  have d1 := block_cell HK1.out 1
  have d2 := block_cell HK1.out 2
  simp at d0 d1 d2
  clear hb1
  go_wp2_with (go_at_call 19; refine (unwrap47 _ _ _ _).mono ?_; rintro e w' ⟨rfl, rfl⟩)
  refine (of_bare _ _ (cell_alloc HG1.out _)).mono ?_
  rintro e w2 ⟨rfl, hb2⟩
  obtain ⟨HG2, HK2, HB2⟩ := carry2 HG1 HK1 HB1 hb2
  clear hb2 d0 d1 d2
  have d0 := block_cell HK2.out 0
  have d1 := block_cell HK2.out 1
  have d2 := block_cell HK2.out 2
  simp at d0 d1 d2
  go_wp2_with fail
  refine (of_one _ _ _ _ HG2.out).mono ?_
  rintro e w3 ⟨rfl, hb3⟩
  obtain ⟨HG3, _, HB3⟩ := carry3 HG2 HK2 HB2 hb3
  clear hb3 d0 d1 d2
  go_wp2_with fail
  refine (awake _ HG3.out).mono ?_
  rintro e w4 ⟨rfl, hb4⟩
  have HB4 := Lib.hid (HB3.out.trans (hb4.mono HB3.out.size))
  clear hb4
  go_wp2_with fail
  refine (Of_nil0 _).mono ?_
  rintro e w5 ⟨rfl, hb5⟩
  have HB5 := Lib.hid (HB4.out.trans (hb5.mono HB4.out.size))
  clear hb5
  go_wp2_with fail
  refine (words_nil _).mono ?_
  rintro e w6 ⟨v, rfl, hown, hb6⟩
  have HB6 := Lib.hid (HB5.out.trans (hb6.mono HB5.out.size))
  clear hb6
  obtain ⟨ad, cp, rfl⟩ : ∃ ad cp, v = .slice ad 0 cp := by
    rcases owned_shape hown with ⟨rfl, _⟩ | ⟨g, cap, rfl, _⟩
    · exact ⟨_, _, rfl⟩
    · exact ⟨_, _, rfl⟩
  clear hown
  go_wp2_with fail
  refine (depth_nil _).mono ?_
  rintro e w7 ⟨rfl, hb7⟩
  have HB7 := Lib.hid (HB6.out.trans (hb7.mono HB6.out.size))
  clear hb7
  go_wp2_with fail
  refine (isF_nil _ _).mono ?_
  rintro e w8 ⟨rfl, hb8⟩
  have HB8 := Lib.hid (HB7.out.trans (hb8.mono HB7.out.size))
  clear hb8
  go_wp2
  go_ret
  exact ⟨rfl, HB8.out⟩
end Go.Proofs.YtpeoodljchpadaaDoor
