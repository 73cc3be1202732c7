/-
  The walks of fault.Under, fault.steps, fault.Words, fault.Depth: what a chain's steps are, in order. Conditions: at most 100 steps.
-/
import Derived.Test.YtpeoodljchpadaaDoorAs
import Derived.Lib.Hide
namespace Go.Proofs.YtpeoodljchpadaaDoor
open Go.RowKit Go.Extern.Stop Go.Stop Go.Extern

theorem under_some (s : ByteArray) (a : Int) (t : Nat) (v : Value) (w : World) :
    Calls Tryd.prog 17 #[.string s, .int .i64 a, .iface t v] w fun e w' => e = .returned (.iface 47 (.agg #[.string s, .int .i64 a, .iface t v])) ∧ w' = w := by
  go_enter Tryd.func17, Tryd.ntmps17
  go_wp2
  go_ret
  exact ⟨rfl, rfl⟩
theorem under_nil (s : ByteArray) (a : Int) (w : World) :
    Calls Tryd.prog 17 #[.string s, .int .i64 a, .nilIface] w fun e w' => e = .returned .nilIface ∧ w' = w := by
  go_enter Tryd.func17, Tryd.ntmps17
  go_wp2
  go_ret
  exact ⟨rfl, rfl⟩

/-- the cells of the steps of a chain -/
def stepCells : List (ByteArray × Int) → Value → List Value
  | [], _ => []
  | p :: r, e => .string p.1 :: .int .i64 p.2 :: chain r e :: stepCells r e
theorem stepCells_length (l : List (ByteArray × Int)) (e : Value) : (stepCells l e).length = l.length * 3 := by
  induction l with
  | nil => rfl
  | cons p r ih => simp only [stepCells, List.length_cons, ih]; omega

theorem info47 : (Tryd.prog.info? 47).map (fun i => (i.zero, i.size, i.bytes)) = some (some (.agg #[.string ⟨#[]⟩, .int .i64 0, .nilIface]), 3, 40) := by kernel_rfl
theorem info9 : (Tryd.prog.info? 9).map (fun i => (i.zero, i.size, i.bytes)) = some (some (.string ⟨#[]⟩), 1, 16) := by kernel_rfl
theorem info3 : (Tryd.prog.info? 3).map (fun i => (i.zero, i.size, i.bytes)) = some (some (.int .i64 0), 1, 8) := by kernel_rfl

theorem asStep (v : Value) (w : World) : (Instr.typeAssert (.iface 47 v) 38 47 true).run Tryd.prog w = .ok (.tuple #[v, .bool true]) w := by kernel_rfl
theorem asStep33 (v : Value) (w : World) : (Instr.typeAssert (.iface 33 v) 38 47 true).run Tryd.prog w = .ok (.tuple #[.agg #[.string ⟨#[]⟩, .int .i64 0, .nilIface], .bool false]) w := by kernel_rfl
theorem asStep35 (v : Value) (w : World) : (Instr.typeAssert (.iface 35 v) 38 47 true).run Tryd.prog w = .ok (.tuple #[.agg #[.string ⟨#[]⟩, .int .i64 0, .nilIface], .bool false]) w := by kernel_rfl
theorem step_take (l1 : List (ByteArray × Int)) (q : ByteArray × Int) (r : List (ByteArray × Int)) (e : Value) :
    (stepCells (l1 ++ q :: r) e).take (l1.length * 3) ++ [.string q.1, .int .i64 q.2, chain r e] = (stepCells (l1 ++ q :: r) e).take ((l1.length + 1) * 3) := by
  induction l1 with
  | nil => simp [stepCells]
  | cons p l1 ih =>
    simp only [List.cons_append, stepCells, List.length_cons]
    rw [show (l1.length + 1) * 3 = l1.length * 3 + 1 + 1 + 1 by omega, show (l1.length + 1 + 1) * 3 = (l1.length + 1) * 3 + 1 + 1 + 1 by omega]
    simp only [List.take_succ_cons, List.cons_append, ih]
theorem cells_new (w : World) (xs : List Value) (t : TypeId) : ∀ j u, xs[j]? = some u → (w.alloc (.cells xs.toArray t)).cell? ((⟨w.heap.size, 0, none⟩ : Addr).add j) = some u := by
  intro j u hj
  have h := block_cell (t := t) (heap_alloc_new w (.cells xs.toArray t)) j
  rw [show ((⟨w.heap.size, 0, none⟩ : Addr).add j) = ⟨w.heap.size, j, none⟩ by unfold Addr.add; split <;> simp_all]
  rw [h]
  simpa using hj
theorem chain_shape (r : List (ByteArray × Int)) (e : Value) (he : e = .nilIface ∨ (∃ m, e = numV m) ∨ ∃ c a, e = fltV c a) : chain r e = .nilIface ∨ ∃ t v, chain r e = .iface t v := by
  cases r with
  | nil =>
    rcases he with rfl | ⟨m, rfl⟩ | ⟨c, a, rfl⟩
    · exact Or.inl rfl
    · exact Or.inr ⟨_, _, rfl⟩
    · exact Or.inr ⟨_, _, rfl⟩
  | cons p l => exact Or.inr ⟨_, _, rfl⟩
theorem below_grown {w0 w w1 : World} {base : Nat} {e : TypeId} {size : Nat} {v : Value} {n : Nat} {xs : List Value} (hb : Below base w0 w) (hbs : base ≤ w.heap.size) (hown : w.ownsRow base e size v n xs) (hg : w.grownBy w1 v.ownBlock) : Below base w0 w1 :=
  hb.grown hg hbs (fun k hk => (hown.lt k hk).1)

set_option maxHeartbeats 2000000 in
set_option maxRecDepth 100000 in
theorem steps_any (l : List (ByteArray × Int)) (e : Value) (he : e = .nilIface ∨ (∃ m, e = numV m) ∨ ∃ c a, e = fltV c a) (hl : l.length ≤ 100) (w : World) :
    Calls Tryd.prog 22 #[chain l e] w fun ev w' => ∃ v, ev = .returned v ∧ w'.ownsRow w.heap.size 47 3 v l.length (stepCells l e) ∧ Below w.heap.size w w' := by
  obtain ⟨i0, hi, hz0, hz1, hz2⟩ := info_parts info47
  go_enter Tryd.func22, Tryd.ntmps22
  go_wp2
  go_loopg [0, 3] (l.length) (fun k err v wr => ∃ l1 l2, l = l1 ++ l2 ∧ k = l2.length ∧ err = chain l2 e ∧ wr.ownsRow w.heap.size 47 3 v l1.length ((stepCells l e).take (l1.length * 3)) ∧ Below w.heap.size w wr)
  case atStart => exact ⟨[], l, rfl, rfl, rfl, World.ownsRow_nil _ _ _ _, Below.refl _ _⟩
  case round =>
    obtain ⟨l1, l2, hl2, rfl, rfl, hown, hb⟩ := hrel
    have HL := Lib.hid hl2
    clear hl2
    cases l2 with
    | nil =>
      have hlen : l1.length = l.length := by have := congrArg List.length HL.out; simp at this; omega
      have hT : (stepCells l e).take (l1.length * 3) = stepCells l e := List.take_of_length_le (by rw [stepCells_length, hlen]; omega)
      rw [hT, hlen] at hown
      clear hT hlen
      have t33 := asStep33
      have t35 := asStep35
      simp only [chain]
      rcases he with rfl | ⟨m, rfl⟩ | ⟨c, a, rfl⟩
      · go_wp2
        go_ret
        exact ⟨_, rfl, hown, hb⟩
      · simp only [numV]
        go_wp2
        go_ret
        exact ⟨_, rfl, hown, hb⟩
      · simp only [fltV]
        go_wp2
        go_ret
        exact ⟨_, rfl, hown, hb⟩
    | cons q r =>
      have hl1 : l1.length ≤ 99 := by have := congrArg List.length HL.out; simp at this; omega
      have hs := hb.size
      have tS := asStep
      have hsh := chain_shape r e he
      simp only [chain]
      generalize hx : chain r e = x at *
      have Hx := Lib.hid hx
      clear hx
      rcases hsh with rfl | ⟨t, v, rfl⟩
      · have hc3 : ∀ j u, [Value.string q.1, .int .i64 q.2, .nilIface][j]? = some u → ((wr.alloc (.cells #[.string q.1, .int .i64 q.2, .nilIface] 47)).alloc (.cells #[.string q.1, .int .i64 q.2, .nilIface] 47)).cell? ((⟨wr.heap.size + 1, 0, none⟩ : Addr).add j) = some u := fun j u hj => by
          rw [show (⟨wr.heap.size + 1, 0, none⟩ : Addr) = ⟨(wr.alloc (.cells #[.string q.1, .int .i64 q.2, .nilIface] 47)).heap.size, 0, none⟩ by simp]
          exact cells_new _ _ _ j u hj
        have HC := Lib.hid hc3
        clear hc3
        go_wp2_with (at_builtin; refine wpList_append_own _ rfl _ _ 54 rfl w.heap.size 47 i0 _ 3 40 Tryd.underlying54 hi hz0 hz1 hz2 rfl (by decide) _ _ _ rfl ((hown.alloc _).alloc _) ⟨wr.heap.size + 1, 0, none⟩ 1 1 [.string q.1, .int .i64 q.2, .nilIface] rfl rfl HC.out ?c2 ?c3 ?c4 ?c5 ?_)
        case c2 => intro u hu; simp only [List.mem_cons, List.not_mem_nil, or_false] at hu; rcases hu with rfl | rfl | rfl <;> rfl
        case c3 => unfold maxLen; omega
        case c4 => omega
        case c5 => simp; omega
        intro v' w1 hown' hgrow _
        have hb2 : Below w.heap.size w w1 := below_grown ((hb.alloc hs _).alloc (by simp; omega) _) (by simp; omega) ((hown.alloc _).alloc _) hgrow
        have hcel : w1.cell? ⟨wr.heap.size, 2, none⟩ = some (.nilIface) := hgrow.cell (a := ⟨wr.heap.size, 2, none⟩) (by rw [World.cell?_alloc_lt _ _ ⟨wr.heap.size, 2, none⟩ (by simp)]; exact block_cell (t := 47) (heap_alloc_new wr _) 2) (fun h => by have := hown.lt _ h.symm; simp at this)
        rw [← Hx.out] at hown'
        have ht := step_take l1 q r e
        rw [← HL.out] at ht
        rw [ht] at hown'
        clear hgrow hown ht
        go_wp2
        go_roundg r.length
        case rel => exact ⟨l1 ++ [q], r, by rw [HL.out]; simp, rfl, Hx.out.symm, by simpa using hown', hb2⟩
        case measure => simp
      · have hc3 : ∀ j u, [Value.string q.1, .int .i64 q.2, .iface t v][j]? = some u → ((wr.alloc (.cells #[.string q.1, .int .i64 q.2, .iface t v] 47)).alloc (.cells #[.string q.1, .int .i64 q.2, .iface t v] 47)).cell? ((⟨wr.heap.size + 1, 0, none⟩ : Addr).add j) = some u := fun j u hj => by
          rw [show (⟨wr.heap.size + 1, 0, none⟩ : Addr) = ⟨(wr.alloc (.cells #[.string q.1, .int .i64 q.2, .iface t v] 47)).heap.size, 0, none⟩ by simp]
          exact cells_new _ _ _ j u hj
        have HC := Lib.hid hc3
        clear hc3
        go_wp2_with (at_builtin; refine wpList_append_own _ rfl _ _ 54 rfl w.heap.size 47 i0 _ 3 40 Tryd.underlying54 hi hz0 hz1 hz2 rfl (by decide) _ _ _ rfl ((hown.alloc _).alloc _) ⟨wr.heap.size + 1, 0, none⟩ 1 1 [.string q.1, .int .i64 q.2, .iface t v] rfl rfl HC.out ?c2 ?c3 ?c4 ?c5 ?_)
        case c2 => intro u hu; simp only [List.mem_cons, List.not_mem_nil, or_false] at hu; rcases hu with rfl | rfl | rfl <;> rfl
        case c3 => unfold maxLen; omega
        case c4 => omega
        case c5 => simp; omega
        intro v' w1 hown' hgrow _
        have hb2 : Below w.heap.size w w1 := below_grown ((hb.alloc hs _).alloc (by simp; omega) _) (by simp; omega) ((hown.alloc _).alloc _) hgrow
        have hcel : w1.cell? ⟨wr.heap.size, 2, none⟩ = some (.iface t v) := hgrow.cell (a := ⟨wr.heap.size, 2, none⟩) (by rw [World.cell?_alloc_lt _ _ ⟨wr.heap.size, 2, none⟩ (by simp)]; exact block_cell (t := 47) (heap_alloc_new wr _) 2) (fun h => by have := hown.lt _ h.symm; simp at this)
        rw [← Hx.out] at hown'
        have ht := step_take l1 q r e
        rw [← HL.out] at ht
        rw [ht] at hown'
        clear hgrow hown ht
        go_wp2
        go_roundg r.length
        case rel => exact ⟨l1 ++ [q], r, by rw [HL.out]; simp, rfl, Hx.out.symm, by simpa using hown', hb2⟩
        case measure => simp
end Go.Proofs.YtpeoodljchpadaaDoor
