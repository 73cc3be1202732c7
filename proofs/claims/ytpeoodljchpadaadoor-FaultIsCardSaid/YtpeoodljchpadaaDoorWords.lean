/-
  The walks of fault.Words and fault.Depth. Conditions: at most 100 steps.
-/
import Derived.Test.YtpeoodljchpadaaDoorSteps
namespace Go.Proofs.YtpeoodljchpadaaDoor
open Go.RowKit Go.Extern.Stop Go.Stop Go.Extern

/-- the value of an owned row: nil, or at a block's head -/
theorem owned_shape {w : World} {base : Nat} {e : TypeId} {size : Nat} {v : Value} {n : Nat} {xs : List Value} (h : w.ownsRow base e size v n xs) :
    (v = .slice none 0 0 ∧ n = 0) ∨ ∃ g cap, v = .slice (some ⟨g, 0, none⟩) n cap ∧ base ≤ g ∧ g < w.heap.size ∧ n ≤ cap ∧ ∀ j, j < xs.length → w.cell? ⟨g, j, none⟩ = xs[j]? := by
  rcases h.2 with h' | ⟨g, cap, cur, rfl, hb, hg, hn, _, _, ht⟩
  · exact Or.inl h'
  · refine Or.inr ⟨g, cap, rfl, hb, (Array.getElem?_eq_some_iff.1 hg).1, hn, fun j hj => ?_⟩
    have hc := h.cells (g := g) rfl j xs[j] (List.getElem?_eq_getElem hj)
    rw [List.getElem?_eq_getElem hj, ← hc]
    unfold Addr.add
    split
    · subst j; rfl
    · simp

theorem owned_mono {w : World} {base base' : Nat} {e : TypeId} {size : Nat} {v : Value} {n : Nat} {xs : List Value} (h : w.ownsRow base e size v n xs) (hb : base' ≤ base) : w.ownsRow base' e size v n xs := by
  obtain ⟨h1, h2⟩ := h
  refine ⟨h1, ?_⟩
  rcases h2 with h2 | ⟨g, cap, cur, hv, hg, r⟩
  · exact Or.inl h2
  · exact Or.inr ⟨g, cap, cur, hv, Nat.le_trans hb hg, r⟩

theorem depth_any (l : List (ByteArray × Int)) (e : Value) (he : e = .nilIface ∨ (∃ m, e = numV m) ∨ ∃ c a, e = fltV c a) (hl : l.length ≤ 100) (w : World) :
    Calls Tryd.prog 14 #[chain l e] w fun ev w' => ev = .returned (.int .i64 l.length) ∧ Below w.heap.size w w' := by
  go_enter Tryd.func14, Tryd.ntmps14
  go_wp2_with fail
  refine (steps_any l e he hl _).mono ?_
  rintro _ w1 ⟨v, rfl, hown, hb⟩
  rcases owned_shape hown with ⟨hv, hn⟩ | ⟨g, cap, hv, _, _, hcap, _⟩
  · rw [hv]
    have Hn := Lib.hid hn
    clear hown hv hn
    go_wp2
    go_ret
    exact ⟨by rw [Hn.out]; rfl, hb⟩
  · rw [hv]
    clear hown hv
    go_wp2
    go_ret
    exact ⟨rfl, hb⟩

theorem stepCells_get (l : List (ByteArray × Int)) (e : Value) (k : Nat) (hk : k < l.length) :
    (stepCells l e)[3 * k]? = some (.string l[k].1) ∧ (stepCells l e)[3 * k + 1]? = some (.int .i64 l[k].2) ∧ (stepCells l e)[3 * k + 2]? = some (chain (l.drop (k + 1)) e) := by
  induction l generalizing k with
  | nil => simp at hk
  | cons p r ih =>
    cases k with
    | zero => simp [stepCells]
    | succ k =>
      have := ih k (by simpa using hk)
      simpa [stepCells, Nat.mul_succ, show 3 * k + 3 + 1 = (3 * k + 1) + 1 + 1 + 1 by omega, show 3 * k + 3 + 2 = (3 * k + 2) + 1 + 1 + 1 by omega] using this

def strs (l : List (ByteArray × Int)) : List Value := l.map fun p => .string p.1

theorem strs_succ (l : List (ByteArray × Int)) (k : Nat) (hkl : k < l.length) : strs (l.take k) ++ [.string l[k].1] = strs (l.take (k + 1)) := by
  unfold strs
  rw [List.take_succ_eq_append_getElem hkl, List.map_append]
  rfl

set_option maxRecDepth 100000 in
set_option maxHeartbeats 1000000 in
theorem words_any (l : List (ByteArray × Int)) (e : Value) (he : e = .nilIface ∨ (∃ m, e = numV m) ∨ ∃ c a, e = fltV c a) (hl : l.length ≤ 100) (w : World) :
    Calls Tryd.prog 13 #[chain l e] w fun ev w' => ∃ v, ev = .returned v ∧ w'.ownsRow w.heap.size 9 1 v l.length (strs l) ∧ Below w.heap.size w w' := by
  obtain ⟨i0, hi, hz0, hz1, hz2⟩ := info_parts info9
  go_enter Tryd.func13, Tryd.ntmps13
  go_wp2_with fail
  refine (steps_any l e he hl _).mono ?_
  rintro _ w1 ⟨v, rfl, hown, hb⟩
  have hs1 := hb.size
  rcases owned_shape hown with ⟨hv, hn⟩ | ⟨g, cap, hv, _, hg, hcap, hc⟩
  · have hl0 : l = [] := List.length_eq_zero_iff.1 hn
    subst hl0
    rw [hv]
    clear hown hv hn
    go_wp2
    refine wp_loop_rounds 1 ?_
    rw [rounds_succ]
    go_wp2
    go_ret
    exact ⟨_, rfl, World.ownsRow_nil _ _ _ _, hb⟩
  · rw [hv]
    clear hown hv
    go_wp2
    go_loopw [3, 9] (fun v i wr => ∃ k : Nat, k ≤ l.length ∧ i = .int .i64 k ∧ wr.ownsRow w1.heap.size 9 1 v k (strs (l.take k)) ∧ Below w1.heap.size w1 wr)
      (fun _ i _ => l.length - (intOf i).toNat)
    case atStart => exact ⟨0, Nat.zero_le _, rfl, World.ownsRow_nil _ _ _ _, Below.refl _ _⟩
    case round =>
      obtain ⟨k, hk, rfl, hown, hbr⟩ := hrel
      by_cases hkl : k < l.length
      · obtain ⟨c0, c1, c2⟩ := stepCells_get l e k hkl
        have hlen := stepCells_length l e
        have d0 : wr.cell? ⟨g, k * 3, none⟩ = some (.string l[k].1) := by rw [hbr.cell (p := ⟨g, k * 3, none⟩) hg, hc _ (by omega), Nat.mul_comm]; exact c0
        have d1 : wr.cell? ⟨g, k * 3 + 1, none⟩ = some (.int .i64 l[k].2) := by rw [hbr.cell (p := ⟨g, k * 3 + 1, none⟩) hg, hc _ (by omega), Nat.mul_comm]; exact c1
        have d2 : wr.cell? ⟨g, k * 3 + 2, none⟩ = some (chain (l.drop (k + 1)) e) := by rw [hbr.cell (p := ⟨g, k * 3 + 2, none⟩) hg, hc _ (by omega), Nat.mul_comm]; exact c2
        have hs := hbr.size
        clear c0 c1 c2 hc hlen
        have hsh := chain_shape (l.drop (k + 1)) e he
        generalize hx : chain (l.drop (k + 1)) e = x at *
        clear hx
        rcases hsh with rfl | ⟨t, v, rfl⟩
        · have hc3 : ∀ j u, [Value.string l[k].1][j]? = some u → ((wr.alloc (.cells #[.string l[k].1, .int .i64 l[k].2, .nilIface] 47)).alloc (.cells #[.string l[k].1] 9)).cell? ((⟨wr.heap.size + 1, 0, none⟩ : Addr).add j) = some u := fun j u hj => by
            rw [show (⟨wr.heap.size + 1, 0, none⟩ : Addr) = ⟨(wr.alloc (.cells #[.string l[k].1, .int .i64 l[k].2, .nilIface] 47)).heap.size, 0, none⟩ by simp]
            exact cells_new _ _ _ j u hj
          have HC := Lib.hid hc3
          clear hc3
          go_wp2_with (at_builtin; refine wpList_append_own _ rfl _ _ 22 rfl w1.heap.size 9 i0 _ 1 16 Tryd.underlying22 hi hz0 hz1 hz2 rfl (by decide) _ _ _ rfl ((hown.alloc _).alloc _) ⟨wr.heap.size + 1, 0, none⟩ 1 1 [.string l[k].1] rfl rfl HC.out ?c2 ?c3 ?c4 ?c5 ?_)
          case c2 => intro u hu; simp only [List.mem_cons, List.not_mem_nil, or_false] at hu; rcases hu with rfl; rfl
          case c3 => unfold maxLen; omega
          case c4 => omega
          case c5 => simp; omega
          intro v' w2 hown' hgrow _
          have hb2 : Below w1.heap.size w1 w2 := below_grown ((hbr.alloc hs _).alloc (by simp; omega) _) (by simp; omega) ((hown.alloc _).alloc _) hgrow
          have ht : strs (l.take k) ++ [.string l[k].1] = strs (l.take (k + 1)) := strs_succ l k hkl
          rw [ht] at hown'
          clear hgrow hown ht
          go_wp2
          go_roundw
          case rel => exact ⟨k + 1, by omega, by go_num, hown', hb2⟩
          case measure => simp [intOf]; omega
        · have hc3 : ∀ j u, [Value.string l[k].1][j]? = some u → ((wr.alloc (.cells #[.string l[k].1, .int .i64 l[k].2, .iface t v] 47)).alloc (.cells #[.string l[k].1] 9)).cell? ((⟨wr.heap.size + 1, 0, none⟩ : Addr).add j) = some u := fun j u hj => by
            rw [show (⟨wr.heap.size + 1, 0, none⟩ : Addr) = ⟨(wr.alloc (.cells #[.string l[k].1, .int .i64 l[k].2, .iface t v] 47)).heap.size, 0, none⟩ by simp]
            exact cells_new _ _ _ j u hj
          have HC := Lib.hid hc3
          clear hc3
          go_wp2_with (at_builtin; refine wpList_append_own _ rfl _ _ 22 rfl w1.heap.size 9 i0 _ 1 16 Tryd.underlying22 hi hz0 hz1 hz2 rfl (by decide) _ _ _ rfl ((hown.alloc _).alloc _) ⟨wr.heap.size + 1, 0, none⟩ 1 1 [.string l[k].1] rfl rfl HC.out ?c2 ?c3 ?c4 ?c5 ?_)
          case c2 => intro u hu; simp only [List.mem_cons, List.not_mem_nil, or_false] at hu; rcases hu with rfl; rfl
          case c3 => unfold maxLen; omega
          case c4 => omega
          case c5 => simp; omega
          intro v' w2 hown' hgrow _
          have hb2 : Below w1.heap.size w1 w2 := below_grown ((hbr.alloc hs _).alloc (by simp; omega) _) (by simp; omega) ((hown.alloc _).alloc _) hgrow
          have ht : strs (l.take k) ++ [.string l[k].1] = strs (l.take (k + 1)) := strs_succ l k hkl
          rw [ht] at hown'
          clear hgrow hown ht
          go_wp2
          go_roundw
          case rel => exact ⟨k + 1, by omega, by go_num, hown', hb2⟩
          case measure => simp [intOf]; omega
      · have hk' : k = l.length := by omega
        have HK := Lib.hid hk'
        clear hk' hc
        go_wp2
        go_ret
        refine ⟨_, rfl, ?_, hb.trans (hbr.mono hs1)⟩
        rw [HK.out, List.take_length] at hown
        exact owned_mono hown hs1
end Go.Proofs.YtpeoodljchpadaaDoor
