/-
  The walk of the law's 'way': the chain of a way's steps with what is at its end. Conditions: the way's rows are there; at most 61 words.
-/
import Derived.Test.YtpeoodljchpadaaDoorWay
import Derived.Lib.Hide
namespace Go.Proofs.YtpeoodljchpadaaDoor
open Go.RowKit Go.Extern.Stop Go.Stop Go.Extern

theorem chain_iface' (l : List (ByteArray × Int)) (t : Nat) (v : Value) : ∃ t' v', chain l (.iface t v) = .iface t' v' := by
  cases l with
  | nil => exact ⟨_, _, rfl⟩
  | cons p r => exact ⟨_, _, rfl⟩
theorem chain_drop_iface (sl : List (ByteArray × Int)) (E : Value) (k : Nat) (hk : k < sl.length) : ∃ t' v', chain (sl.drop k) E = .iface t' v' := by
  rw [drop_chain sl E k hk]; exact ⟨_, _, rfl⟩
theorem block_below' {w w1 : World} {B : Nat} {x : Obj} (h : w.heap[B]? = some x) (hg : Below w.heap.size w w1) : w1.heap[B]? = some x := by
  rw [hg.block B (Array.getElem?_eq_some_iff.1 h).1]; exact h

set_option maxRecDepth 100000 in
set_option maxHeartbeats 2000000 in
theorem way1 (y1 y2 : Value) (c a : Int) (sl : List (ByteArray × Int)) (hl : sl.length ≤ 61) (w : World) (hw : WayAt w y1 y2 sl) :
    Calls Tryd.prog 12 #[.agg #[y1, y2, .int .i64 1, .int .i64 c, .int .i64 a]] w fun ev w' => ev = .returned (chain sl (fltV c a)) ∧ Below w.heap.size w w' := by
  obtain ⟨a1, m1, a2, m2, rfl, rfl, hc⟩ := hw
  have hle : sl.length ≤ sl.length := by omega
  have hge : sl.length ≤ sl.length + 1 := by omega
  have B0 : Below w.heap.size w (w.alloc (.cells #[.slice a1 sl.length m1, .slice a2 sl.length m2, .int .i64 1, .int .i64 c, .int .i64 a] 29)) := (Below.refl _ _).alloc (Nat.le_refl _) _
  go_enter Tryd.func12, Tryd.ntmps12
  go_wp2_with (go_at_call 23; refine (end1 _ _ _ _ _ _ _ _ rfl rfl c a _).mono ?_; rintro e w1 ⟨rfl, hb1⟩; have hx1 := hb1.cell (p := ⟨w.heap.size, 0, none⟩) (by simp); have hx2 := hb1.cell (p := ⟨w.heap.size, 2, none⟩) (by simp); simp at hx1 hx2)
  have B1 : Below w.heap.size w w1 := B0.trans (hb1.mono (by simp))
  have K1 := block_below' (heap_alloc_new w (.cells #[.slice a1 sl.length m1, .slice a2 sl.length m2, .int .i64 1, .int .i64 c, .int .i64 a] 29)) hb1
  have HK1 := Lib.hid K1
  have hs1 : w.heap.size < w1.heap.size := (Array.getElem?_eq_some_iff.1 K1).1
  clear K1 hx1 hx2 B0
  go_loopw [3, 5] (fun v i wr => ∃ k : Nat, k ≤ sl.length ∧ i = .int .i64 ((k : Int) - 1) ∧ v = chain (sl.drop k) (fltV c a) ∧ Below w1.heap.size w1 wr) (fun _ i _ => (intOf i + 1).toNat)
  case atStart => exact ⟨sl.length, Nat.le_refl _, rfl, by rw [List.drop_length]; rfl, Below.refl _ _⟩
  case round =>
    obtain ⟨k, hk, rfl, rfl, hbr⟩ := hrel
    cases k with
    | zero =>
      rw [show (((0 : Nat) : Int) - 1) = -1 from rfl]
      go_wp2
      go_ret
      exact ⟨rfl, B1.trans (hbr.mono (by omega))⟩
    | succ j =>
      have hj : j < sl.length := by omega
      obtain ⟨g1, g2, rfl, rfl, hg1, hg2, hcc⟩ : ∃ g1 g2, a1 = some ⟨g1, 0, none⟩ ∧ a2 = some ⟨g2, 0, none⟩ ∧ g1 < w.heap.size ∧ g2 < w.heap.size ∧ ∀ k (h : k < sl.length), w.cell? ⟨g1, k, none⟩ = some (.string sl[k].1) ∧ w.cell? ⟨g2, k, none⟩ = some (.int .i64 sl[k].2) := by
        rcases hc with h | h
        · rw [h] at hj; simp at hj
        · exact h
      have hkc := block_below' HK1.out hbr
      have d0 := block_cell hkc 0
      have d1 := block_cell hkc 1
      have c0 : wr.cell? ⟨g1, j, none⟩ = some (.string sl[j].1) := by rw [hbr.cell (p := ⟨g1, j, none⟩) (by show g1 < _; omega), B1.cell (p := ⟨g1, j, none⟩) hg1]; exact (hcc j hj).1
      have c1 : wr.cell? ⟨g2, j, none⟩ = some (.int .i64 sl[j].2) := by rw [hbr.cell (p := ⟨g2, j, none⟩) (by show g2 < _; omega), B1.cell (p := ⟨g2, j, none⟩) hg2]; exact (hcc j hj).2
      simp at d0 d1
      have hd := drop_chain sl (fltV c a) j hj
      obtain ⟨tq, vq, hq⟩ : ∃ t' v', chain (sl.drop (j + 1)) (fltV c a) = .iface t' v' := chain_iface' _ 35 (.agg #[.int .i64 c, .int .i64 a])
      rw [hq] at hd
      rw [show (((j + 1 : Nat) : Int) - 1) = (j : Int) from by omega, hq]
      have HD := Lib.hid hd
      have b0 : (0 : Int) ≤ (j : Int) := by omega
      have b1 : (j : Int) < (sl.length : Int) := by omega
      clear hc hcc hkc hq hd
      generalize sl[j].1 = s1 at *
      generalize sl[j].2 = z1 at *
      go_wp2
      go_quiet ((go_at_call 17; exact Calls.quiet_of_same (under_some _ _ _ _ _)))
      go_wp2
      go_roundw
      case rel => exact ⟨j, by omega, rfl, HD.out.symm, below_drewN hbr _⟩
      case measure => first | (simp [intOf]; done) | (simp [intOf]; omega)

set_option maxRecDepth 100000 in
set_option maxHeartbeats 2000000 in
theorem way2 (y1 y2 : Value) (c a : Int) (sl : List (ByteArray × Int)) (hl : sl.length ≤ 61) (w : World) (hw : WayAt w y1 y2 sl) :
    Calls Tryd.prog 12 #[.agg #[y1, y2, .int .i64 2, .int .i64 c, .int .i64 a]] w fun ev w' => ev = .returned (chain sl (numV c)) ∧ Below w.heap.size w w' := by
  obtain ⟨a1, m1, a2, m2, rfl, rfl, hc⟩ := hw
  have hle : sl.length ≤ sl.length := by omega
  have hge : sl.length ≤ sl.length + 1 := by omega
  have B0 : Below w.heap.size w (w.alloc (.cells #[.slice a1 sl.length m1, .slice a2 sl.length m2, .int .i64 2, .int .i64 c, .int .i64 a] 29)) := (Below.refl _ _).alloc (Nat.le_refl _) _
  go_enter Tryd.func12, Tryd.ntmps12
  go_wp2_with (go_at_call 23; refine (end2 _ _ _ _ _ _ _ _ rfl rfl c a _).mono ?_; rintro e w1 ⟨rfl, hb1⟩; have hx1 := hb1.cell (p := ⟨w.heap.size, 0, none⟩) (by simp); have hx2 := hb1.cell (p := ⟨w.heap.size, 2, none⟩) (by simp); simp at hx1 hx2)
  have B1 : Below w.heap.size w w1 := B0.trans (hb1.mono (by simp))
  have K1 := block_below' (heap_alloc_new w (.cells #[.slice a1 sl.length m1, .slice a2 sl.length m2, .int .i64 2, .int .i64 c, .int .i64 a] 29)) hb1
  have HK1 := Lib.hid K1
  have hs1 : w.heap.size < w1.heap.size := (Array.getElem?_eq_some_iff.1 K1).1
  clear K1 hx1 hx2 B0
  go_loopw [3, 5] (fun v i wr => ∃ k : Nat, k ≤ sl.length ∧ i = .int .i64 ((k : Int) - 1) ∧ v = chain (sl.drop k) (numV c) ∧ Below w1.heap.size w1 wr) (fun _ i _ => (intOf i + 1).toNat)
  case atStart => exact ⟨sl.length, Nat.le_refl _, rfl, by rw [List.drop_length]; rfl, Below.refl _ _⟩
  case round =>
    obtain ⟨k, hk, rfl, rfl, hbr⟩ := hrel
    cases k with
    | zero =>
      rw [show (((0 : Nat) : Int) - 1) = -1 from rfl]
      go_wp2
      go_ret
      exact ⟨rfl, B1.trans (hbr.mono (by omega))⟩
    | succ j =>
      have hj : j < sl.length := by omega
      obtain ⟨g1, g2, rfl, rfl, hg1, hg2, hcc⟩ : ∃ g1 g2, a1 = some ⟨g1, 0, none⟩ ∧ a2 = some ⟨g2, 0, none⟩ ∧ g1 < w.heap.size ∧ g2 < w.heap.size ∧ ∀ k (h : k < sl.length), w.cell? ⟨g1, k, none⟩ = some (.string sl[k].1) ∧ w.cell? ⟨g2, k, none⟩ = some (.int .i64 sl[k].2) := by
        rcases hc with h | h
        · rw [h] at hj; simp at hj
        · exact h
      have hkc := block_below' HK1.out hbr
      have d0 := block_cell hkc 0
      have d1 := block_cell hkc 1
      have c0 : wr.cell? ⟨g1, j, none⟩ = some (.string sl[j].1) := by rw [hbr.cell (p := ⟨g1, j, none⟩) (by show g1 < _; omega), B1.cell (p := ⟨g1, j, none⟩) hg1]; exact (hcc j hj).1
      have c1 : wr.cell? ⟨g2, j, none⟩ = some (.int .i64 sl[j].2) := by rw [hbr.cell (p := ⟨g2, j, none⟩) (by show g2 < _; omega), B1.cell (p := ⟨g2, j, none⟩) hg2]; exact (hcc j hj).2
      simp at d0 d1
      have hd := drop_chain sl (numV c) j hj
      obtain ⟨tq, vq, hq⟩ : ∃ t' v', chain (sl.drop (j + 1)) (numV c) = .iface t' v' := chain_iface' _ 33 (.int .i64 c)
      rw [hq] at hd
      rw [show (((j + 1 : Nat) : Int) - 1) = (j : Int) from by omega, hq]
      have HD := Lib.hid hd
      have b0 : (0 : Int) ≤ (j : Int) := by omega
      have b1 : (j : Int) < (sl.length : Int) := by omega
      clear hc hcc hkc hq hd
      generalize sl[j].1 = s1 at *
      generalize sl[j].2 = z1 at *
      go_wp2
      go_quiet ((go_at_call 17; exact Calls.quiet_of_same (under_some _ _ _ _ _)))
      go_wp2
      go_roundw
      case rel => exact ⟨j, by omega, rfl, HD.out.symm, below_drewN hbr _⟩
      case measure => first | (simp [intOf]; done) | (simp [intOf]; omega)

set_option maxRecDepth 100000 in
set_option maxHeartbeats 2000000 in
theorem way0 (y1 y2 : Value) (c a : Int) (pl sl : List (ByteArray × Int)) (hsl : sl = pl ++ [(endStr, a)]) (hl : sl.length ≤ 61) (w : World) (hw : WayAt w y1 y2 sl) :
    Calls Tryd.prog 12 #[.agg #[y1, y2, .int .i64 0, .int .i64 c, .int .i64 a]] w fun ev w' => ev = .returned (chain sl .nilIface) ∧ Below w.heap.size w w' := by
  have hlen : sl.length = pl.length + 1 := by rw [hsl]; simp
  have HSL := Lib.hid hsl
  clear hsl
  obtain ⟨a1, m1, a2, m2, rfl, rfl, hc⟩ := hw
  have hle : pl.length ≤ sl.length := by omega
  have hge : sl.length ≤ pl.length + 1 := by omega
  have HL := Lib.hid hlen
  clear hlen
  have B0 : Below w.heap.size w (w.alloc (.cells #[.slice a1 sl.length m1, .slice a2 sl.length m2, .int .i64 0, .int .i64 c, .int .i64 a] 29)) := (Below.refl _ _).alloc (Nat.le_refl _) _
  go_enter Tryd.func12, Tryd.ntmps12
  go_wp2_with (go_at_call 23; refine (end0 _ _ _ _ _ _ _ _ rfl rfl c a _).mono ?_; rintro e w1 ⟨rfl, hb1⟩; have hx1 := hb1.cell (p := ⟨w.heap.size, 0, none⟩) (by simp); have hx2 := hb1.cell (p := ⟨w.heap.size, 2, none⟩) (by simp); simp at hx1 hx2)
  have B1 : Below w.heap.size w w1 := B0.trans (hb1.mono (by simp))
  have K1 := block_below' (heap_alloc_new w (.cells #[.slice a1 sl.length m1, .slice a2 sl.length m2, .int .i64 0, .int .i64 c, .int .i64 a] 29)) hb1
  have HK1 := Lib.hid K1
  have hs1 : w.heap.size < w1.heap.size := (Array.getElem?_eq_some_iff.1 K1).1
  clear K1 hx1 hx2 B0
  go_loopw [3, 5] (fun v i wr => ∃ k : Nat, k ≤ pl.length ∧ i = .int .i64 ((k : Int) - 1) ∧ v = chain (sl.drop k) .nilIface ∧ Below w1.heap.size w1 wr) (fun _ i _ => (intOf i + 1).toNat)
  case atStart => exact ⟨pl.length, Nat.le_refl _, by rw [show (sl.length : Int) - 1 - 1 = (pl.length : Int) - 1 from by have := HL.out; omega], by rw [HSL.out, List.drop_left], Below.refl _ _⟩
  case round =>
    obtain ⟨k, hk, rfl, rfl, hbr⟩ := hrel
    cases k with
    | zero =>
      rw [show (((0 : Nat) : Int) - 1) = -1 from rfl]
      go_wp2
      go_ret
      exact ⟨rfl, B1.trans (hbr.mono (by omega))⟩
    | succ j =>
      have hj : j < sl.length := by omega
      obtain ⟨g1, g2, rfl, rfl, hg1, hg2, hcc⟩ : ∃ g1 g2, a1 = some ⟨g1, 0, none⟩ ∧ a2 = some ⟨g2, 0, none⟩ ∧ g1 < w.heap.size ∧ g2 < w.heap.size ∧ ∀ k (h : k < sl.length), w.cell? ⟨g1, k, none⟩ = some (.string sl[k].1) ∧ w.cell? ⟨g2, k, none⟩ = some (.int .i64 sl[k].2) := by
        rcases hc with h | h
        · rw [h] at hj; simp at hj
        · exact h
      have hkc := block_below' HK1.out hbr
      have d0 := block_cell hkc 0
      have d1 := block_cell hkc 1
      have c0 : wr.cell? ⟨g1, j, none⟩ = some (.string sl[j].1) := by rw [hbr.cell (p := ⟨g1, j, none⟩) (by show g1 < _; omega), B1.cell (p := ⟨g1, j, none⟩) hg1]; exact (hcc j hj).1
      have c1 : wr.cell? ⟨g2, j, none⟩ = some (.int .i64 sl[j].2) := by rw [hbr.cell (p := ⟨g2, j, none⟩) (by show g2 < _; omega), B1.cell (p := ⟨g2, j, none⟩) hg2]; exact (hcc j hj).2
      simp at d0 d1
      have hd := drop_chain sl .nilIface j hj
      obtain ⟨tq, vq, hq⟩ : ∃ t' v', chain (sl.drop (j + 1)) .nilIface = .iface t' v' := chain_drop_iface sl .nilIface _ (by have := HL.out; omega)
      rw [hq] at hd
      rw [show (((j + 1 : Nat) : Int) - 1) = (j : Int) from by omega, hq]
      have HD := Lib.hid hd
      have b0 : (0 : Int) ≤ (j : Int) := by omega
      have b1 : (j : Int) < (sl.length : Int) := by omega
      clear hc hcc hkc hq hd
      generalize sl[j].1 = s1 at *
      generalize sl[j].2 = z1 at *
      go_wp2
      go_quiet ((go_at_call 17; exact Calls.quiet_of_same (under_some _ _ _ _ _)))
      go_wp2
      go_roundw
      case rel => exact ⟨j, by omega, rfl, HD.out.symm, below_drewN hbr _⟩
      case measure => first | (simp [intOf]; done) | (simp [intOf]; omega)
end Go.Proofs.YtpeoodljchpadaaDoor
