/-
  The walks of the law's 'end', 'way', 'few' and of the document's Inner, Of, Is. Conditions: the way's rows are there; at most 61 words.
-/
import Derived.Test.YtpeoodljchpadaaDoorWords
import Derived.Deep.QuietTactic
import Derived.BigQuiet
namespace Go.Proofs.YtpeoodljchpadaaDoor
open Go.RowKit Go.Extern.Stop Go.Stop Go.Extern

def endStr : ByteArray := ⟨#[101, 110, 100]⟩
/-- what is at a way's end, behind all steps -/
def wayE (e c a : Int) : Value := if e = 1 then fltV c a else if e = 2 then numV c else .nilIface

/-- two values are rows of a way's words and places -/
def WayAt (w : World) (y1 y2 : Value) (sl : List (ByteArray × Int)) : Prop :=
  ∃ a1 m1 a2 m2, y1 = .slice a1 sl.length m1 ∧ y2 = .slice a2 sl.length m2 ∧ (sl = [] ∨ ∃ g1 g2, a1 = some ⟨g1, 0, none⟩ ∧ a2 = some ⟨g2, 0, none⟩ ∧ g1 < w.heap.size ∧ g2 < w.heap.size ∧
    ∀ k (h : k < sl.length), w.cell? ⟨g1, k, none⟩ = some (.string sl[k].1) ∧ w.cell? ⟨g2, k, none⟩ = some (.int .i64 sl[k].2))
theorem WayAt.ext {w w' : World} {y1 y2 : Value} {sl : List (ByteArray × Int)} (h : WayAt w y1 y2 sl) (hb : Below w.heap.size w w') : WayAt w' y1 y2 sl := by
  obtain ⟨a1, m1, a2, m2, h1, h2, h3⟩ := h
  refine ⟨a1, m1, a2, m2, h1, h2, ?_⟩
  rcases h3 with h3 | ⟨g1, g2, e1, e2, l1, l2, hc⟩
  · exact Or.inl h3
  · have := hb.size
    exact Or.inr ⟨g1, g2, e1, e2, by omega, by omega, fun k h => ⟨by rw [hb.cell (p := ⟨g1, k, none⟩) l1]; exact (hc k h).1, by rw [hb.cell (p := ⟨g2, k, none⟩) l2]; exact (hc k h).2⟩⟩

theorem few_any (a1 a2 : Option Addr) (n1 c1 n2 c2 : Nat) (en code at_ : Int) (w : World) (hn : n1 ≤ 9223372036854775807) :
    Calls Tryd.prog 7 #[.agg #[.slice a1 n1 c1, .slice a2 n2 c2, .int .u8 en, .int .i64 code, .int .i64 at_]] w fun ev w' => ev = .returned (.bool (decide (n1 ≤ 60))) ∧ Below w.heap.size w w' := by
  go_enter Tryd.func7, Tryd.ntmps7
  go_wp2
  go_ret
  exact ⟨by congr 2; simp; omega, (Below.refl _ _).alloc (Nat.le_refl _) _⟩

theorem end0 (y1 y2 : Value) (a1 a2 : Option Addr) (n1 c1 n2 c2 : Nat) (h1 : y1 = .slice a1 n1 c1) (h2 : y2 = .slice a2 n2 c2) (c a : Int) (w : World) :
    Calls Tryd.prog 23 #[.agg #[y1, y2, .int .i64 0, .int .i64 c, .int .i64 a]] w fun ev w' => ev = .returned (chain [(endStr, a)] .nilIface) ∧ Below w.heap.size w w' := by
  subst h1; subst h2
  go_enter Tryd.func23, Tryd.ntmps23
  go_wp2
  go_ret
  exact ⟨rfl, (Below.refl _ _).alloc (Nat.le_refl _) _⟩
theorem end1 (y1 y2 : Value) (a1 a2 : Option Addr) (n1 c1 n2 c2 : Nat) (h1 : y1 = .slice a1 n1 c1) (h2 : y2 = .slice a2 n2 c2) (c a : Int) (w : World) :
    Calls Tryd.prog 23 #[.agg #[y1, y2, .int .i64 1, .int .i64 c, .int .i64 a]] w fun ev w' => ev = .returned (fltV c a) ∧ Below w.heap.size w w' := by
  subst h1; subst h2
  go_enter Tryd.func23, Tryd.ntmps23
  go_wp2
  go_ret
  exact ⟨rfl, (Below.refl _ _).alloc (Nat.le_refl _) _⟩
theorem end2 (y1 y2 : Value) (a1 a2 : Option Addr) (n1 c1 n2 c2 : Nat) (h1 : y1 = .slice a1 n1 c1) (h2 : y2 = .slice a2 n2 c2) (c a : Int) (w : World) :
    Calls Tryd.prog 23 #[.agg #[y1, y2, .int .i64 2, .int .i64 c, .int .i64 a]] w fun ev w' => ev = .returned (numV c) ∧ Below w.heap.size w w' := by
  subst h1; subst h2
  go_enter Tryd.func23, Tryd.ntmps23
  go_wp2
  go_ret
  exact ⟨rfl, (Below.refl _ _).alloc (Nat.le_refl _) _⟩

theorem drop_chain (sl : List (ByteArray × Int)) (E : Value) (j : Nat) (hj : j < sl.length) : chain (sl.drop j) E = .iface 47 (.agg #[.string sl[j].1, .int .i64 sl[j].2, chain (sl.drop (j + 1)) E]) := by
  rw [List.drop_eq_getElem_cons hj]
  rfl
end Go.Proofs.YtpeoodljchpadaaDoor
