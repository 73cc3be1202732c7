/-
  The walk of fault.Of: the fault at a chain's end; a number at the innermost step's place; else ErrOther there; nothing of nil. Conditions: at most 100 steps; errors.errorType holds its type's handle.
-/
import Derived.Test.YtpeoodljchpadaaDoorWords
import Derived.Test.YtpeoodljchpadaaDoorAsF
namespace Go.Proofs.YtpeoodljchpadaaDoor
open Go.RowKit Go.Extern.Stop Go.Stop Go.Extern

/-- the place of the innermost step; 0: there is none -/
def innerAt (l : List (ByteArray × Int)) : Int := (l.getLast?.map (·.2)).getD 0
theorem innerAt_get (p : ByteArray × Int) (l : List (ByteArray × Int)) : innerAt (p :: l) = ((p :: l)[l.length]'(by simp)).2 := by
  unfold innerAt
  rw [List.getLast?_eq_getElem?]
  simp

theorem cell_after {w w1 : World} {B T : Nat} {cs : Array Value} {t : TypeId} (h : w.heap[B]? = some (.cells cs t (0, 0))) (hg : w.grownBy w1 (some T)) (hne : B ≠ T) : w1.heap[B]? = some (.cells cs t (0, 0)) := by
  rw [hg.block B (Array.getElem?_eq_some_iff.1 h).1 (fun e => hne (by simpa using e))]; exact h
theorem block_below {w w1 : World} {B : Nat} {cs : Array Value} {t : TypeId} (h : w.heap[B]? = some (.cells cs t (0, 0))) (hg : Below w.heap.size w w1) : w1.heap[B]? = some (.cells cs t (0, 0)) := by
  rw [hg.block B (Array.getElem?_eq_some_iff.1 h).1]; exact h
theorem block_alloc {w : World} {B : Nat} {cs : Array Value} {t : TypeId} (h : w.heap[B]? = some (.cells cs t (0, 0))) (o : Obj) : (w.alloc o).heap[B]? = some (.cells cs t (0, 0)) := by
  rw [Below.heap_alloc _ _ _ (Array.getElem?_eq_some_iff.1 h).1]; exact h
theorem cell_below {w w1 : World} {a : Addr} {v : Value} (h : w.cell? a = some v) (hg : Below w.heap.size w w1) : w1.cell? a = some v := by
  rw [hg.cell (World.block_lt_of_cell? w a h)]; exact h
theorem cell_alloc {w : World} {a : Addr} {v : Value} (h : w.cell? a = some v) (o : Obj) : (w.alloc o).cell? a = some v := by
  rw [World.cell?_alloc_lt _ _ a (World.block_lt_of_cell? w a h)]; exact h
theorem below_of_grown {w0 w w1 : World} {T : Nat} (hb : Below w0.heap.size w0 w) (hT : w0.heap.size ≤ T) (hg : w.grownBy w1 (some T)) : Below w0.heap.size w0 w1 :=
  hb.trans ⟨hg.os, hg.tape, hg.output, hg.size, fun k hk => hg.block k (Nat.lt_of_lt_of_le hk hb.size) (fun e => by simp at e; omega)⟩
theorem below_store {w0 w : World} (hb : Below w0.heap.size w0 w) (T : Nat) (hT : w0.heap.size ≤ T) (x y : Value) : Below w0.heap.size w0 ((w.setCell ⟨T, 0, none⟩ x).setCell ⟨T, 1, none⟩ y) :=
  (hb.setCell (p := ⟨T, 0, none⟩) hT x).setCell (p := ⟨T, 1, none⟩) hT y

theorem Of_nil0 (w : World) : Calls Tryd.prog 11 #[.nilIface] w fun ev w' => ev = .returned (.agg #[.int .i64 0, .int .i64 0]) ∧ Below w.heap.size w w' := by
  go_enter Tryd.func11, Tryd.ntmps11
  go_wp2
  exact bodyPost_ret (v := .agg #[.int .i64 0, .int .i64 0]) (by simp [results, Tryd.results11, go_sem]) rfl ⟨rfl, (Below.refl _ _).alloc (Nat.le_refl _) _⟩

set_option maxRecDepth 100000 in
set_option maxHeartbeats 2000000 in
theorem Of_flt (c a : Int) (l : List (ByteArray × Int)) (w : World) (hg : w.cell? ⟨0, 0, none⟩ = some (rty 38)) :
    Calls Tryd.prog 11 #[chain l (fltV c a)] w fun ev w' => ev = .returned (.agg #[.int .i64 c, .int .i64 a]) ∧ Below w.heap.size w w' := by
  have hg2 : ((w.alloc (.cells #[.int .i64 0, .int .i64 0] 35)).alloc (.cells #[.int .i64 0, .int .i64 0] 35)).cell? ⟨0, 0, none⟩ = some (rty 38) := cell_alloc (cell_alloc hg _) _
  have hT := heap_alloc_new (w.alloc (.cells #[.int .i64 0, .int .i64 0] 35)) (.cells #[.int .i64 0, .int .i64 0] 35)
  rw [World.size_alloc] at hT
  have hR := block_alloc (heap_alloc_new w (.cells #[.int .i64 0, .int .i64 0] 35)) (.cells #[.int .i64 0, .int .i64 0] 35)
  have HG := Lib.hid hg2
  have HT := Lib.hid hT
  have HR := Lib.hid hR
  clear hg hg2 hT hR
  obtain ⟨tq, vq, hq'⟩ : ∃ tq vq, chain l (fltV c a) = .iface tq vq := chain_iface l 35 (.agg #[.int .i64 c, .int .i64 a])
  have Hq := Lib.hid hq'
  rw [hq']
  clear hq'
  go_enter Tryd.func11, Tryd.ntmps11
  go_wp2_with fail
  rw [← Hq.out]
  refine (As_hit35 (w.heap.size + 1) c a _ _ l _ HT.out HG.out).mono ?_
  rintro e w1 ⟨rfl, hgr, hbl⟩
  have hR1 := cell_after HR.out hgr (by simp)
  have B := below_of_grown (w0 := w) (((Below.refl _ _).alloc (Nat.le_refl _) _).alloc (by simp) _) (by simp) hgr
  have f0 := block_cell hbl 0
  have f1 := block_cell hbl 1
  have r0 := block_cell hR1 0
  have r1 := block_cell hR1 1
  have z0 := block_free hR1 0
  have z1 := block_free hR1 1
  have S1 := block_set hR1 0 (.int .i64 c)
  have S2 := block_set S1 1 (.int .i64 a)
  have g0 := block_cell S2 0
  have g1 := block_cell S2 1
  have y1 := block_cell S1 1
  have x1 := block_free S1 1
  have HB := Lib.hid B
  clear S1 S2 hR1 hgr hbl B
  simp at f0 f1 r0 r1 z0 z1 g0 g1 y1 x1
  go_wp2
  exact bodyPost_ret (v := .agg #[.int .i64 c, .int .i64 a]) (by simp [results, Tryd.results11, go_sem, g0, g1]) rfl ⟨rfl, below_store HB.out _ (Nat.le_refl _) _ _⟩

set_option maxRecDepth 100000 in
set_option maxHeartbeats 4000000 in
theorem Of_num0 (m : Int) (w : World) (hg : w.cell? ⟨0, 0, none⟩ = some (rty 38)) :
    Calls Tryd.prog 11 #[(chain [] (numV m))] w fun ev w' => ev = .returned (.agg #[.int .i64 m, .int .i64 0]) ∧ Below w.heap.size w w' := by
  have hg2 : ((w.alloc (.cells #[.int .i64 0, .int .i64 0] 35)).alloc (.cells #[.int .i64 0, .int .i64 0] 35)).cell? ⟨0, 0, none⟩ = some (rty 38) := cell_alloc (cell_alloc hg _) _
  have hT := heap_alloc_new (w.alloc (.cells #[.int .i64 0, .int .i64 0] 35)) (.cells #[.int .i64 0, .int .i64 0] 35)
  rw [World.size_alloc] at hT
  have hR := block_alloc (heap_alloc_new w (.cells #[.int .i64 0, .int .i64 0] 35)) (.cells #[.int .i64 0, .int .i64 0] 35)
  have HG := Lib.hid hg2
  have HT := Lib.hid hT
  have HR := Lib.hid hR
  clear hg hg2 hT hR
  obtain ⟨tq, vq, hq'⟩ : ∃ tq vq, (chain [] (numV m)) = .iface tq vq := chain_iface [] 33 (.int .i64 m)
  have Hq := Lib.hid hq'
  rw [hq']
  clear hq'
  go_enter Tryd.func11, Tryd.ntmps11
  go_wp2_with fail
  rw [← Hq.out]
  refine (As_miss35_num (w.heap.size + 1) m _ _ [] _ HT.out HG.out).mono ?_
  rintro e w1 ⟨rfl, hb1⟩
  have hR1 := block_below HR.out hb1
  have hG1 := cell_below HG.out hb1
  have B1 : Below w.heap.size w w1 := below_alloc2 hb1
  have HR1 := Lib.hid hR1
  have HG1 := Lib.hid hG1
  have HB1 := Lib.hid B1
  clear hR1 hG1 B1 hb1
  rw [Hq.out]
  go_wp2_with fail
  rw [← Hq.out]
  refine (steps_any [] (numV m) (Or.inr (Or.inl ⟨m, rfl⟩)) (by simp) _).mono ?_
  rintro e w2 ⟨v, rfl, hown, hb2⟩
  have hR2 := block_below HR1.out hb2
  have hG2 := cell_alloc (cell_below HG1.out hb2) (.cells #[.int .i64 0] 33)
  have B2 : Below w.heap.size w w2 := HB1.out.trans (hb2.mono HB1.out.size)
  have hT2 := heap_alloc_new w2 (.cells #[.int .i64 0] 33)
  have HR2 := Lib.hid (block_alloc hR2 (.cells #[.int .i64 0] 33))
  have HG2 := Lib.hid hG2
  have HT2 := Lib.hid hT2
  have HB2 := Lib.hid B2
  have hsz2 : w1.heap.size ≤ w2.heap.size := hb2.size
  clear hR2 hG2 hT2 B2 hb2
  have HLT : w.heap.size < w2.heap.size := by
    have h4 := (Array.getElem?_eq_some_iff.1 HR2.out).1
    simp only [World.size_alloc] at h4
    have h5 := (Array.getElem?_eq_some_iff.1 HR1.out).1
    exact Nat.lt_of_lt_of_le h5 hsz2
  rcases owned_shape hown with ⟨hv, _⟩ | ⟨g, cap, hv, _, _, hcap, _⟩
  · subst hv
    clear hown
    rw [Hq.out]
    go_wp2_with fail
    rw [← Hq.out]
    refine (As_hit33 w2.heap.size m _ [] _ HT2.out HG2.out).mono ?_
    rintro e w3 ⟨rfl, hgr, hbl⟩
    have hR3 := cell_after HR2.out hgr (Nat.ne_of_lt HLT)
    have B3 : Below w.heap.size w w3 := below_of_grown (HB2.out.alloc HB2.out.size _) HB2.out.size hgr
    have f0 := block_cell hbl 0
    simp at f0
    have q0 := block_cell hR3 0
    have q1 := block_cell hR3 1
    have z0 := block_free hR3 0
    have z1 := block_free hR3 1
    have S1 := block_set hR3 0 (.int .i64 m)
    have S2 := block_set S1 1 (.int .i64 (0))
    have g0 := block_cell S2 0
    have g1 := block_cell S2 1
    have y1 := block_cell S1 1
    have x1 := block_free S1 1
    have HB3 := Lib.hid B3
    clear S1 S2 hR3 B3
    simp at q0 q1 g0 g1 y1
    go_wp2
    exact bodyPost_ret (v := .agg #[.int .i64 m, .int .i64 (0)]) (by simp [results, Tryd.results11, go_sem, g0, g1]) rfl ⟨rfl, below_store HB3.out _ (Nat.le_refl _) _ _⟩
  · subst hv
    clear hown
    rw [Hq.out]
    go_wp2_with fail
    rw [← Hq.out]
    refine (As_hit33 w2.heap.size m _ [] _ HT2.out HG2.out).mono ?_
    rintro e w3 ⟨rfl, hgr, hbl⟩
    have hR3 := cell_after HR2.out hgr (Nat.ne_of_lt HLT)
    have B3 : Below w.heap.size w w3 := below_of_grown (HB2.out.alloc HB2.out.size _) HB2.out.size hgr
    have f0 := block_cell hbl 0
    simp at f0
    have q0 := block_cell hR3 0
    have q1 := block_cell hR3 1
    have z0 := block_free hR3 0
    have z1 := block_free hR3 1
    have S1 := block_set hR3 0 (.int .i64 m)
    have S2 := block_set S1 1 (.int .i64 (0))
    have g0 := block_cell S2 0
    have g1 := block_cell S2 1
    have y1 := block_cell S1 1
    have x1 := block_free S1 1
    have HB3 := Lib.hid B3
    clear S1 S2 hR3 B3
    simp at q0 q1 g0 g1 y1
    go_wp2
    exact bodyPost_ret (v := .agg #[.int .i64 m, .int .i64 (0)]) (by simp [results, Tryd.results11, go_sem, g0, g1]) rfl ⟨rfl, below_store HB3.out _ (Nat.le_refl _) _ _⟩

set_option maxRecDepth 100000 in
set_option maxHeartbeats 4000000 in
theorem Of_num (m : Int) (p : ByteArray × Int) (l : List (ByteArray × Int)) (hl : l.length ≤ 90) (w : World) (hg : w.cell? ⟨0, 0, none⟩ = some (rty 38)) :
    Calls Tryd.prog 11 #[(chain (p :: l) (numV m))] w fun ev w' => ev = .returned (.agg #[.int .i64 m, .int .i64 ((p :: l)[l.length]'(by simp)).2]) ∧ Below w.heap.size w w' := by
  have hg2 : ((w.alloc (.cells #[.int .i64 0, .int .i64 0] 35)).alloc (.cells #[.int .i64 0, .int .i64 0] 35)).cell? ⟨0, 0, none⟩ = some (rty 38) := cell_alloc (cell_alloc hg _) _
  have hT := heap_alloc_new (w.alloc (.cells #[.int .i64 0, .int .i64 0] 35)) (.cells #[.int .i64 0, .int .i64 0] 35)
  rw [World.size_alloc] at hT
  have hR := block_alloc (heap_alloc_new w (.cells #[.int .i64 0, .int .i64 0] 35)) (.cells #[.int .i64 0, .int .i64 0] 35)
  have HG := Lib.hid hg2
  have HT := Lib.hid hT
  have HR := Lib.hid hR
  clear hg hg2 hT hR
  obtain ⟨tq, vq, hq'⟩ : ∃ tq vq, (chain (p :: l) (numV m)) = .iface tq vq := chain_iface (p :: l) 33 (.int .i64 m)
  have Hq := Lib.hid hq'
  rw [hq']
  clear hq'
  go_enter Tryd.func11, Tryd.ntmps11
  go_wp2_with fail
  rw [← Hq.out]
  refine (As_miss35_num (w.heap.size + 1) m _ _ (p :: l) _ HT.out HG.out).mono ?_
  rintro e w1 ⟨rfl, hb1⟩
  have hR1 := block_below HR.out hb1
  have hG1 := cell_below HG.out hb1
  have B1 : Below w.heap.size w w1 := below_alloc2 hb1
  have HR1 := Lib.hid hR1
  have HG1 := Lib.hid hG1
  have HB1 := Lib.hid B1
  clear hR1 hG1 B1 hb1
  rw [Hq.out]
  go_wp2_with fail
  rw [← Hq.out]
  refine (steps_any (p :: l) (numV m) (Or.inr (Or.inl ⟨m, rfl⟩)) (by simp; omega) _).mono ?_
  rintro e w2 ⟨v, rfl, hown, hb2⟩
  have hR2 := block_below HR1.out hb2
  have hG2 := cell_alloc (cell_below HG1.out hb2) (.cells #[.int .i64 0] 33)
  have B2 : Below w.heap.size w w2 := HB1.out.trans (hb2.mono HB1.out.size)
  have hT2 := heap_alloc_new w2 (.cells #[.int .i64 0] 33)
  have HR2 := Lib.hid (block_alloc hR2 (.cells #[.int .i64 0] 33))
  have HG2 := Lib.hid hG2
  have HT2 := Lib.hid hT2
  have HB2 := Lib.hid B2
  have hsz2 : w1.heap.size ≤ w2.heap.size := hb2.size
  clear hR2 hG2 hT2 B2 hb2
  have HLT : w.heap.size < w2.heap.size := by
    have h4 := (Array.getElem?_eq_some_iff.1 HR2.out).1
    simp only [World.size_alloc] at h4
    have h5 := (Array.getElem?_eq_some_iff.1 HR1.out).1
    exact Nat.lt_of_lt_of_le h5 hsz2
  rcases owned_shape hown with ⟨_, hn⟩ | ⟨g, cap, hv, _, hgl, hcap, hc⟩
  · simp at hn
  · subst hv
    have hc1 : w2.cell? ⟨g, l.length * 3 + 1, none⟩ = some (.int .i64 ((p :: l)[l.length]'(by simp)).2) := by
      rw [hc _ (by rw [stepCells_length]; simp; omega), Nat.mul_comm]
      exact (stepCells_get (p :: l) _ l.length (by simp)).2.1
    simp only [List.length_cons] at hcap
    clear hown hc
    rw [Hq.out]
    simp only [List.length_cons]
    go_wp2_with fail
    rw [← Hq.out]
    refine (As_hit33 w2.heap.size m _ (p :: l) _ HT2.out HG2.out).mono ?_
    rintro e w3 ⟨rfl, hgr, hbl⟩
    have hR3 := cell_after HR2.out hgr (Nat.ne_of_lt HLT)
    have B3 : Below w.heap.size w w3 := below_of_grown (HB2.out.alloc HB2.out.size _) HB2.out.size hgr
    have f0 := block_cell hbl 0
    simp at f0
    have q0 := block_cell hR3 0
    have q1 := block_cell hR3 1
    have z0 := block_free hR3 0
    have z1 := block_free hR3 1
    have S1 := block_set hR3 0 (.int .i64 m)
    have S2 := block_set S1 1 (.int .i64 (((p :: l)[l.length]'(by simp)).2))
    have g0 := block_cell S2 0
    have g1 := block_cell S2 1
    have y1 := block_cell S1 1
    have x1 := block_free S1 1
    have HB3 := Lib.hid B3
    clear S1 S2 hR3 B3
    simp at q0 q1 g0 g1 y1
    go_wp2
    exact bodyPost_ret (v := .agg #[.int .i64 m, .int .i64 (((p :: l)[l.length]'(by simp)).2)]) (by simp [results, Tryd.results11, go_sem, g0, g1]) rfl ⟨rfl, below_store HB3.out _ (Nat.le_refl _) _ _⟩

set_option maxRecDepth 100000 in
set_option maxHeartbeats 4000000 in
theorem Of_none (p : ByteArray × Int) (l : List (ByteArray × Int)) (hl : l.length ≤ 90) (w : World) (hg : w.cell? ⟨0, 0, none⟩ = some (rty 38)) :
    Calls Tryd.prog 11 #[(chain (p :: l) .nilIface)] w fun ev w' => ev = .returned (.agg #[.int .i64 21, .int .i64 ((p :: l)[l.length]'(by simp)).2]) ∧ Below w.heap.size w w' := by
  have hg2 : ((w.alloc (.cells #[.int .i64 0, .int .i64 0] 35)).alloc (.cells #[.int .i64 0, .int .i64 0] 35)).cell? ⟨0, 0, none⟩ = some (rty 38) := cell_alloc (cell_alloc hg _) _
  have hT := heap_alloc_new (w.alloc (.cells #[.int .i64 0, .int .i64 0] 35)) (.cells #[.int .i64 0, .int .i64 0] 35)
  rw [World.size_alloc] at hT
  have hR := block_alloc (heap_alloc_new w (.cells #[.int .i64 0, .int .i64 0] 35)) (.cells #[.int .i64 0, .int .i64 0] 35)
  have HG := Lib.hid hg2
  have HT := Lib.hid hT
  have HR := Lib.hid hR
  clear hg hg2 hT hR
  obtain ⟨tq, vq, hq'⟩ : ∃ tq vq, (chain (p :: l) .nilIface) = .iface tq vq := ⟨_, _, rfl⟩
  have Hq := Lib.hid hq'
  rw [hq']
  clear hq'
  go_enter Tryd.func11, Tryd.ntmps11
  go_wp2_with fail
  rw [← Hq.out]
  refine (As_miss35_nil (w.heap.size + 1) p _ _ l _ HT.out HG.out).mono ?_
  rintro e w1 ⟨rfl, hb1⟩
  have hR1 := block_below HR.out hb1
  have hG1 := cell_below HG.out hb1
  have B1 : Below w.heap.size w w1 := below_alloc2 hb1
  have HR1 := Lib.hid hR1
  have HG1 := Lib.hid hG1
  have HB1 := Lib.hid B1
  clear hR1 hG1 B1 hb1
  rw [Hq.out]
  go_wp2_with fail
  rw [← Hq.out]
  refine (steps_any (p :: l) .nilIface (Or.inl rfl) (by simp; omega) _).mono ?_
  rintro e w2 ⟨v, rfl, hown, hb2⟩
  have hR2 := block_below HR1.out hb2
  have hG2 := cell_alloc (cell_below HG1.out hb2) (.cells #[.int .i64 0] 33)
  have B2 : Below w.heap.size w w2 := HB1.out.trans (hb2.mono HB1.out.size)
  have hT2 := heap_alloc_new w2 (.cells #[.int .i64 0] 33)
  have HR2 := Lib.hid (block_alloc hR2 (.cells #[.int .i64 0] 33))
  have HG2 := Lib.hid hG2
  have HT2 := Lib.hid hT2
  have HB2 := Lib.hid B2
  have hsz2 : w1.heap.size ≤ w2.heap.size := hb2.size
  clear hR2 hG2 hT2 B2 hb2
  have HLT : w.heap.size < w2.heap.size := by
    have h4 := (Array.getElem?_eq_some_iff.1 HR2.out).1
    simp only [World.size_alloc] at h4
    have h5 := (Array.getElem?_eq_some_iff.1 HR1.out).1
    exact Nat.lt_of_lt_of_le h5 hsz2
  rcases owned_shape hown with ⟨_, hn⟩ | ⟨g, cap, hv, _, hgl, hcap, hc⟩
  · simp at hn
  · subst hv
    have hc1 : w2.cell? ⟨g, l.length * 3 + 1, none⟩ = some (.int .i64 ((p :: l)[l.length]'(by simp)).2) := by
      rw [hc _ (by rw [stepCells_length]; simp; omega), Nat.mul_comm]
      exact (stepCells_get (p :: l) _ l.length (by simp)).2.1
    simp only [List.length_cons] at hcap
    clear hown hc
    rw [Hq.out]
    simp only [List.length_cons]
    go_wp2_with fail
    rw [← Hq.out]
    refine (As_miss33_nil w2.heap.size p _ l _ HT2.out HG2.out).mono ?_
    rintro e w3 ⟨rfl, hb3⟩
    have hR3 := block_below HR2.out hb3
    have B3 : Below w.heap.size w w3 := (HB2.out.alloc HB2.out.size _).trans (hb3.mono (by have := HB2.out.size; simp; omega))
    have q0 := block_cell hR3 0
    have q1 := block_cell hR3 1
    have z0 := block_free hR3 0
    have z1 := block_free hR3 1
    have S1 := block_set hR3 0 (.int .i64 21)
    have S2 := block_set S1 1 (.int .i64 (((p :: l)[l.length]'(by simp)).2))
    have g0 := block_cell S2 0
    have g1 := block_cell S2 1
    have y1 := block_cell S1 1
    have x1 := block_free S1 1
    have HB3 := Lib.hid B3
    clear S1 S2 hR3 B3
    simp at q0 q1 g0 g1 y1
    go_wp2
    exact bodyPost_ret (v := .agg #[.int .i64 21, .int .i64 (((p :: l)[l.length]'(by simp)).2)]) (by simp [results, Tryd.results11, go_sem, g0, g1]) rfl ⟨rfl, below_store HB3.out _ (Nat.le_refl _) _ _⟩
end Go.Proofs.YtpeoodljchpadaaDoor
