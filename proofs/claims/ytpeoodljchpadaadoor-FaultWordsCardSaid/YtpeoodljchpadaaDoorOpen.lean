/-
  The law's argument, opened: a way's words, places, kind, number and place, whatever was handed in. No conditions.
-/
import Derived.Test.YtpeoodljchpadaaDoorLaid
import Derived.Test.YtpeoodljchpadaaDoorFinds
import Derived.ProofKit
import Derived.OpenShut
import Derived.SliceStrings
import Derived.Lib.SmallJoins
namespace Go.Proofs.YtpeoodljchpadaaDoor
open Go.ChangeShapes Go.WideShapes Go.ChangeAt Go.RowKit

theorem cells25 : Tryd.prog.cellsOf 25 = 5 := by kernel_rfl
theorem cells22 : Tryd.prog.cellsOf 22 = 1 := by kernel_rfl
theorem cells23 : Tryd.prog.cellsOf 23 = 1 := by kernel_rfl
theorem cells5 : Tryd.prog.cellsOf 5 = 1 := by kernel_rfl
theorem cells3 : Tryd.prog.cellsOf 3 = 1 := by kernel_rfl
theorem cells9 : Tryd.prog.cellsOf 9 = 1 := by kernel_rfl
theorem laidOut : laidOutB Tryd.prog = true := by kernel_rfl

section
variable {H : Type} {enc : TypeId × Value → H} {W : World} {spare : Nat → Bool} {held : Bool}

theorem five (l : List Value) (h : l.length = 5) : ∃ a b c d e, l = [a, b, c, d, e] := by
  match l, h with
  | [a, b, c, d, e], _ => exact ⟨a, b, c, d, e, rfl⟩

theorem words_read {n : Nat} {v : Value} {y : DataW H × List MemPlace} (h : DataW.trod enc Tryd.prog W 0 spare held n 22 [v] = some y) :
    ∃ a m c, v = .slice a m c ∧ m ≤ 9223372036854775807 ∧ ∃ ss : List ByteArray, (m = 0 ∨ ∃ b o, a = some ⟨b, o, none⟩ ∧ b < W.heap.size ∧ ∀ k, k < m → W.cell? ⟨b, o + k, none⟩ = some (.string (ss.getD k ByteArray.empty))) := by
  rcases open_strings Tryd.underlying22 Tryd.underlying9 cells9 h with ⟨hcs, _⟩ | ⟨a, len, cap, ss, hcs, _, hl, hm, hlen, _, hc, _⟩
  · simp only [List.cons.injEq, and_true] at hcs
    exact ⟨_, _, _, hcs, by omega, [], Or.inl rfl⟩
  · simp only [List.cons.injEq, and_true] at hcs
    have hm' : cap ≤ 9223372036854775807 := by simpa [maxLen] using hm
    refine ⟨_, _, _, hcs, by omega, ss, ?_⟩
    rcases Nat.eq_zero_or_pos len with h0 | h0
    · exact Or.inl h0
    · have hss : len ≤ ss.length := by rw [hlen]; split <;> omega
      obtain ⟨b, o, s⟩ := a
      have hs : s = none := by simpa [Addr.add] using World.cell?_spot (hc 0 (by omega))
      subst hs
      have hcell : ∀ k, k < len → W.cell? ⟨b, o + k, none⟩ = some (.string (ss.getD k ByteArray.empty)) := fun k hk => by
        rw [← add_plain]; exact hc k (by omega)
      exact Or.inr ⟨b, o, rfl, World.block_lt_of_cell? W _ (hcell 0 h0), hcell⟩
theorem places_read {n : Nat} {v : Value} {y : DataW H × List MemPlace} (h : DataW.trod enc Tryd.prog W 0 spare held n 23 [v] = some y) :
    ∃ a m c, v = .slice a m c ∧ m ≤ 9223372036854775807 ∧ ∃ zs : List Int, (m = 0 ∨ ∃ b o, a = some ⟨b, o, none⟩ ∧ b < W.heap.size ∧ ∀ k, k < m → W.cell? ⟨b, o + k, none⟩ = some (.int .i64 (zs.getD k 0))) := by
  rcases open_ints Tryd.underlying23 Tryd.underlying3 cells3 h with ⟨hcs, _⟩ | ⟨a, len, cap, zs, hcs, _, hl, hm, hlen, _, hc, _⟩
  · simp only [List.cons.injEq, and_true] at hcs
    exact ⟨_, _, _, hcs, by omega, [], Or.inl rfl⟩
  · simp only [List.cons.injEq, and_true] at hcs
    have hm' : cap ≤ 9223372036854775807 := by simpa [maxLen] using hm
    refine ⟨_, _, _, hcs, by omega, zs, ?_⟩
    rcases Nat.eq_zero_or_pos len with h0 | h0
    · exact Or.inl h0
    · have hss : len ≤ zs.length := by rw [hlen]; split <;> omega
      obtain ⟨b, o, s⟩ := a
      have hs : s = none := by simpa [Addr.add] using World.cell?_spot (hc 0 (by omega))
      subst hs
      have hcell : ∀ k, k < len → W.cell? ⟨b, o + k, none⟩ = some (.int .i64 (zs.getD k 0)) := fun k hk => by
        rw [← add_plain]; exact hc k (by omega)
      exact Or.inr ⟨b, o, rfl, World.block_lt_of_cell? W _ (hcell 0 h0), hcell⟩

theorem open_way {base : Nat} {v : Value} {d : DataW H} {p : List MemPlace} (hv : Value.okWide Tryd.prog W .any base 25 v) (h : DataW.Trod enc Tryd.prog W 0 spare held 25 v d p) :
    ∃ a1 n1 c1 a2 n2 c2 en code at_, v = .agg #[.slice a1 n1 c1, .slice a2 n2 c2, .int .u8 en, .int .i64 code, .int .i64 at_] ∧ 0 ≤ en ∧ en ≤ 255 ∧ n1 ≤ 9223372036854775807 ∧ n2 ≤ 9223372036854775807 ∧
      ∃ pl : List (ByteArray × Int), pl.length = n1 ∧ WayIn W a1 a2 n2 pl := by
  obtain ⟨cs, rfl, hsz⟩ := okWide_struct Tryd.underlying25 hv
  obtain ⟨l⟩ := cs
  obtain ⟨c0, c1, c2, c3, c4, rfl⟩ := five l (hsz.trans cells25)
  obtain ⟨fuel, hf⟩ := h
  obtain ⟨xs, n, _, _, _, hlen, hg⟩ := DataW.trod_struct Tryd.underlying25 hf
  have hx : ∀ j, j < 5 → ∃ y, xs[j]? = some y := fun j hj => ⟨_, List.getElem?_eq_getElem (by rw [hlen]; exact hj)⟩
  obtain ⟨y0, e0⟩ := hx 0 (by omega)
  obtain ⟨y1, e1⟩ := hx 1 (by omega)
  obtain ⟨y2, e2⟩ := hx 2 (by omega)
  obtain ⟨y3, e3⟩ := hx 3 (by omega)
  obtain ⟨y4, e4⟩ := hx 4 (by omega)
  have g0 := hg 0 _ rfl
  have g1 := hg 1 _ rfl
  have g2 := hg 2 _ rfl
  have g3 := hg 3 _ rfl
  have g4 := hg 4 _ rfl
  rw [e0] at g0
  rw [e1] at g1
  rw [e2] at g2
  rw [e3] at g3
  rw [e4] at g4
  simp [Value.cells, cells22] at g0
  simp [Value.cells, cells23] at g1
  simp [Value.cells, cells5] at g2
  simp [Value.cells, cells3] at g3 g4
  obtain ⟨a1, n1, k1, rfl, hm1, ss, hw⟩ := words_read g0
  obtain ⟨a2, n2, k2, rfl, hm2, zs, hz⟩ := places_read g1
  obtain ⟨en, f2, _, w2⟩ := DataW.trod_int Tryd.underlying5 g2
  obtain ⟨code, f3, _, _⟩ := DataW.trod_int Tryd.underlying3 g3
  obtain ⟨at_, f4, _, _⟩ := DataW.trod_int Tryd.underlying3 g4
  simp at f2 f3 f4
  subst f2 f3 f4
  have hb : 0 ≤ en ∧ en ≤ 255 := by simpa [Lit.wf, IntKind.min, IntKind.max, IntKind.signed, IntKind.bits] using w2
  refine ⟨a1, n1, k1, a2, n2, k2, en, code, at_, rfl, hb.1, hb.2, hm1, hm2, (List.range n1).map fun j => (ss.getD j ByteArray.empty, if j < n2 then zs.getD j 0 else 0), by simp, ?_, ?_, ?_⟩
  · rcases hw with h | ⟨b, o, e, hl, hc⟩
    · exact Or.inl (by simpa using h)
    · exact Or.inr ⟨b, o, e, hl, fun k hk => by simpa using hc k (by simpa using hk)⟩
  · rcases hz with h | ⟨b, o, e, hl, hc⟩
    · exact Or.inl h
    · exact Or.inr ⟨b, o, e, hl, fun k hk h2 => by simpa [h2] using hc k h2⟩
  · intro k hk h2
    simp [Nat.not_lt.2 h2]
end
end Go.Proofs.YtpeoodljchpadaaDoor
