/-
  The walk of the law's 'of': a way as the document has it. Conditions: at most 60 words.
-/
import Derived.Test.YtpeoodljchpadaaDoorWords
import Derived.Deep.RegionLaw
import Derived.Test.YtpeoodljchpadaaDoorOrder
import Derived.Deep.CutBlock
import Derived.Deep.DeepCutAuto
namespace Go.Proofs.YtpeoodljchpadaaDoor
open Go.RowKit Go.Extern.Stop Go.Stop Go.Extern

/-- an append to a row that the call owns, as one step of a region that draws its order -/
theorem step_append_own {P : Program} {ops : Array Oper} {w : World} {o : Oper} {a : Act} {K : Act → World → Prop} {Q : Exit → Act → World → Prop} {E : Prop} (hgd : o.guard = none) (s x : Operand) (t : TypeId)
    (ho : o.op = .call { callee := .builtin .append, args := #[s, x], argTypes := #[t, t] })
    (base : Nat) (e : TypeId) (i : TypeInfo) (z : Value) (size bytes : Nat) (ht : P.underlying t = some (.slice e)) (hi : P.info? e = some i) (hz : i.zero = some z)
    (hsize : i.size = size) (hby : i.bytes = bytes) (hzs : z.cells.size = size) (hsz : 0 < size)
    (v : Value) (n : Nat) (xs : List Value) (hs : a.eval s = v) (hown : w.ownsRow base e size v n xs)
    (ad : Addr) (m c : Nat) (news : List Value) (hx : a.eval x = .slice (some ad) m c) (hl : news.length = m * size) (hnews : ∀ j u, news[j]? = some u → w.cell? (ad.add j) = some u) (h1 : ∀ u ∈ news, u.oneCell' = true)
    (h63 : n + m ≤ maxLen) (hbytes : (n + m) * bytes ≤ 140737488355328) (hbase : base ≤ w.heap.size)
    (h : ∀ v' w', w'.ownsRow base e size v' (n + m) (xs ++ news) → w.grownBy w' v.ownBlock → K (a.put o.dst v') w') :
    if Region.wanted o (yielded ops a.tmps) = true then Oper.wp P o a w K Q else E := by
  rw [if_pos (by simp [Region.wanted, hgd])]
  exact wp_append_own w s x t ho base e i z size bytes ht hi hz hsize hby hzs hsz v n xs hs hown ad m c news hx hl hnews h1 h63 hbytes hbase fun v' w' h2 h3 _ => h v' w' h2 h3

/-- what the law's 'of' has made so far: the copied way, the result's place, the way in the making, its two rows -/
structure Made (B : Nat) (cB : Array Value) (e c a : Int) (w0 wr : World) (v1 v2 : Value) (n : Nat) (ss zz : List Value) : Prop where
  box : wr.heap[B]? = some (.cells cB 25 (0, 0))
  res : wr.heap[B + 1]? = some (.cells #[.slice none 0 0, .slice none 0 0, .int .i64 0, .int .i64 0, .int .i64 0] 29 (0, 0))
  way : wr.heap[B + 1 + 1]? = some (.cells #[v1, v2, .int .i64 e, .int .i64 c, .int .i64 a] 29 (0, 0))
  own1 : wr.ownsRow (B + 3) 9 1 v1 n ss
  own2 : wr.ownsRow (B + 3) 3 1 v2 n zz
  below : Below B w0 wr

theorem block_drew {w : World} {B : Nat} {x : Obj} (h : w.heap[B]? = some x) : w.drew.heap[B]? = some x := h
theorem lt_of_block' {w : World} {B : Nat} {x : Obj} (h : w.heap[B]? = some x) : B < w.heap.size := (Array.getElem?_eq_some_iff.1 h).1
/-- rows of unlike elements lie apart -/
theorem rows_apart {w : World} {base : Nat} {e1 e2 : TypeId} {s1 s2 : Nat} {v1 v2 : Value} {n1 n2 : Nat} {x1 x2 : List Value} (h1 : w.ownsRow base e1 s1 v1 n1 x1) (h2 : w.ownsRow base e2 s2 v2 n2 x2) (hne : e1 ≠ e2) :
    v2.ownBlock = none ∨ v2.ownBlock ≠ v1.ownBlock := by
  rcases h2.2 with ⟨rfl, _⟩ | ⟨g2, c2, k2, rfl, _, hg2, _⟩
  · exact Or.inl rfl
  · rcases h1.2 with ⟨rfl, _⟩ | ⟨g1, c1, k1, rfl, _, hg1, _⟩
    · exact Or.inr (by simp [Value.ownBlock])
    · refine Or.inr fun h => ?_
      simp only [Value.ownBlock, Option.some.injEq] at h
      subst h
      rw [hg1] at hg2
      simp only [Option.some.injEq, Obj.cells.injEq] at hg2
      exact hne hg2.2.1

theorem grown_of_bel {w w' : World} (h : Below w.heap.size w w') (row : Option Nat) : w.grownBy w' row :=
  ⟨h.os, h.tape, h.output, h.size, fun k hk _ => h.block k hk⟩

theorem cell_alloc' {w : World} {a : Addr} {v : Value} (h : w.cell? a = some v) (o : Obj) : (w.alloc o).cell? a = some v := by
  rw [World.cell?_alloc_lt _ _ a (World.block_lt_of_cell? w a h)]; exact h
theorem block_alloc' {w : World} {B : Nat} {x : Obj} (h : w.heap[B]? = some x) (o : Obj) : (w.alloc o).heap[B]? = some x := by
  rw [Below.heap_alloc _ _ _ (lt_of_block' h)]; exact h
theorem one_new {W : World} {N : Nat} {x : Value} (h : W.cell? ⟨N, 0, none⟩ = some x) : ∀ j u, [x][j]? = some u → W.cell? ((⟨N, 0, none⟩ : Addr).add j) = some u := by
  intro j u hj
  match j, hj with
  | 0, hj => simp at hj; subst hj; simpa [Addr.add] using h
theorem cellA (w : World) (x : Value) (t : TypeId) : (w.alloc (.cells #[x] t)).cell? ⟨w.heap.size, 0, none⟩ = some x := block_cell (t := t) (heap_alloc_new w _) 0
theorem cellB (w : World) (x : Value) (t : TypeId) (o : Obj) : ((w.alloc (.cells #[x] t)).alloc o).cell? ⟨w.heap.size, 0, none⟩ = some x := by
  rw [World.cell?_alloc_lt _ _ ⟨w.heap.size, 0, none⟩ (by simp)]; exact cellA w x t
theorem cellC (w : World) (x : Value) (t : TypeId) (o : Obj) : ((w.alloc o).alloc (.cells #[x] t)).cell? ⟨w.heap.size + 1, 0, none⟩ = some x := by
  have h := cellA (w.alloc o) x t
  rw [World.size_alloc] at h; exact h
/-- a new block stays as it was while an older row is written -/
theorem keep_new {w0 W W1 : World} {v : Value} {base : Nat} {e : TypeId} {size n : Nat} {xs : List Value} (h : w0.ownsRow base e size v n xs) (hg : W.grownBy W1 v.ownBlock) (N : Nat) (x : Value) (hN : w0.heap.size ≤ N) (hc : W.cell? ⟨N, 0, none⟩ = some x) : W1.cell? ⟨N, 0, none⟩ = some x :=
  hg.cell hc (fun hh => by have := (h.lt N hh.symm).2; omega)

/-- what is there behind the first append, whichever it is -/
structure Half (B : Nat) (cB : Array Value) (e c a : Int) (w0 W : World) (v1 v2 : Value) : Prop where
  box : W.heap[B]? = some (.cells cB 25 (0, 0))
  res : W.heap[B + 1]? = some (.cells #[.slice none 0 0, .slice none 0 0, .int .i64 0, .int .i64 0, .int .i64 0] 29 (0, 0))
  way : W.heap[B + 1 + 1]? = some (.cells #[v1, v2, .int .i64 e, .int .i64 c, .int .i64 a] 29 (0, 0))
  below : Below B w0 W
theorem Made.half {B : Nat} {cB : Array Value} {e c a : Int} {w0 wr : World} {v1 v2 : Value} {n : Nat} {ss zz : List Value} (h : Made B cB e c a w0 wr v1 v2 n ss zz) : Half B cB e c a w0 wr v1 v2 := ⟨h.box, h.res, h.way, h.below⟩
theorem Half.ext {B : Nat} {cB : Array Value} {e c a : Int} {w0 W W' : World} {v1 v2 : Value} (h : Half B cB e c a w0 W v1 v2) (hb : Below W.heap.size W W') : Half B cB e c a w0 W' v1 v2 :=
  ⟨by rw [hb.block _ (lt_of_block' h.box)]; exact h.box, by rw [hb.block _ (lt_of_block' h.res)]; exact h.res, by rw [hb.block _ (lt_of_block' h.way)]; exact h.way,
    h.below.trans (hb.mono (by have := lt_of_block' h.box; omega))⟩
theorem Half.grown {B : Nat} {cB : Array Value} {e c a : Int} {w0 W W' : World} {v1 v2 : Value} (h : Half B cB e c a w0 W v1 v2) {row : Option Nat} (hg : W.grownBy W' row) (hr : ∀ k, row = some k → B + 3 ≤ k) : Half B cB e c a w0 W' v1 v2 :=
  ⟨by rw [hg.block _ (lt_of_block' h.box) (fun h => by have := hr _ h.symm; omega)]; exact h.box,
   by rw [hg.block _ (lt_of_block' h.res) (fun h => by have := hr _ h.symm; omega)]; exact h.res,
   by rw [hg.block _ (lt_of_block' h.way) (fun h => by have := hr _ h.symm; omega)]; exact h.way,
   h.below.grown hg (by have := lt_of_block' h.box; omega) (fun k hk => by have := hr k hk; omega)⟩
theorem owns_ext {W W' : World} {base : Nat} {e : TypeId} {size : Nat} {v : Value} {n : Nat} {xs : List Value} (h : W.ownsRow base e size v n xs) (hb : Below W.heap.size W W') : W'.ownsRow base e size v n xs :=
  h.kept (row := none) (grown_of_bel hb none) (by cases v <;> simp [Value.ownBlock] <;> (rename_i a _ _; cases a <;> simp))
theorem Half.stored {B : Nat} {cB : Array Value} {e c a : Int} {w0 W : World} {v1 v2 y1 y2 : Value} (h : Half B cB e c a w0 W v1 v2) {n : Nat} {ss zz : List Value} (h1 : W.ownsRow (B + 3) 9 1 y1 n ss) (h2 : W.ownsRow (B + 3) 3 1 y2 n zz) :
    Made B cB e c a w0 ((W.setCell ⟨B + 1 + 1, 0, none⟩ y1).setCell ⟨B + 1 + 1, 1, none⟩ y2) y1 y2 n ss zz :=
  ⟨by rw [Below.heap_setCell _ _ _ _ (by simp; omega), Below.heap_setCell _ _ _ _ (by simp; omega)]; exact h.box,
   by rw [Below.heap_setCell _ _ _ _ (by simp), Below.heap_setCell _ _ _ _ (by simp)]; exact h.res,
   by
    have S1 := block_set h.way 0 y1
    have S2 := block_set S1 1 y2
    exact S2,
   ownsRow_setCell_below (ownsRow_setCell_below h1 (by show B + 1 + 1 < _; omega) _) (by show B + 1 + 1 < _; omega) _,
   ownsRow_setCell_below (ownsRow_setCell_below h2 (by show B + 1 + 1 < _; omega) _) (by show B + 1 + 1 < _; omega) _,
   (h.below.setCell (p := ⟨B + 1 + 1, 0, none⟩) (by show B ≤ B + 1 + 1; omega) _).setCell (p := ⟨B + 1 + 1, 1, none⟩) (by show B ≤ B + 1 + 1; omega) _⟩
theorem Half.stored2 {B : Nat} {cB : Array Value} {e c a : Int} {w0 W : World} {v1 v2 y1 y2 : Value} (h : Half B cB e c a w0 W v1 v2) {n : Nat} {ss zz : List Value} (h1 : W.ownsRow (B + 3) 9 1 y1 n ss) (h2 : W.ownsRow (B + 3) 3 1 y2 n zz) :
    Made B cB e c a w0 ((W.setCell ⟨B + 1 + 1, 1, none⟩ y2).setCell ⟨B + 1 + 1, 0, none⟩ y1) y1 y2 n ss zz :=
  ⟨by rw [Below.heap_setCell _ _ _ _ (by simp; omega), Below.heap_setCell _ _ _ _ (by simp; omega)]; exact h.box,
   by rw [Below.heap_setCell _ _ _ _ (by simp), Below.heap_setCell _ _ _ _ (by simp)]; exact h.res,
   by
    have S1 := block_set h.way 1 y2
    have S2 := block_set S1 0 y1
    exact S2,
   ownsRow_setCell_below (ownsRow_setCell_below h1 (by show B + 1 + 1 < _; omega) _) (by show B + 1 + 1 < _; omega) _,
   ownsRow_setCell_below (ownsRow_setCell_below h2 (by show B + 1 + 1 < _; omega) _) (by show B + 1 + 1 < _; omega) _,
   (h.below.setCell (p := ⟨B + 1 + 1, 1, none⟩) (by show B ≤ B + 1 + 1; omega) _).setCell (p := ⟨B + 1 + 1, 0, none⟩) (by show B ≤ B + 1 + 1; omega) _⟩

theorem owned_slice {w : World} {base : Nat} {e : TypeId} {size : Nat} {v : Value} {n : Nat} {xs : List Value} (h : w.ownsRow base e size v n xs) : ∃ a m c, v = .slice a m c := by
  rcases owned_shape h with ⟨rfl, _⟩ | ⟨g, cap, rfl, _⟩
  · exact ⟨_, _, _, rfl⟩
  · exact ⟨_, _, _, rfl⟩
theorem own_set5 {w : World} {B : Nat} {e : TypeId} {size : Nat} {v : Value} {n : Nat} {xs : List Value} (h : w.ownsRow (B + 3) e size v n xs) {x0 x1 x2 x3 x4 : Value} :
    (((((w.setCell ⟨B + 1, 0, none⟩ x0).setCell ⟨B + 1, 1, none⟩ x1).setCell ⟨B + 1, 2, none⟩ x2).setCell ⟨B + 1, 3, none⟩ x3).setCell ⟨B + 1, 4, none⟩ x4).ownsRow (B + 3) e size v n xs :=
  ownsRow_setCell_below (ownsRow_setCell_below (ownsRow_setCell_below (ownsRow_setCell_below (ownsRow_setCell_below h (by show B + 1 < _; omega) _) (by show B + 1 < _; omega) _) (by show B + 1 < _; omega) _) (by show B + 1 < _; omega) _) (by show B + 1 < _; omega) _
theorem below_set5 {w0 w : World} {B : Nat} (h : Below B w0 w) {x0 x1 x2 x3 x4 : Value} :
    Below B w0 (((((w.setCell ⟨B + 1, 0, none⟩ x0).setCell ⟨B + 1, 1, none⟩ x1).setCell ⟨B + 1, 2, none⟩ x2).setCell ⟨B + 1, 3, none⟩ x3).setCell ⟨B + 1, 4, none⟩ x4) :=
  ((((h.setCell (p := ⟨B + 1, 0, none⟩) (by show B ≤ B + 1; omega) _).setCell (p := ⟨B + 1, 1, none⟩) (by show B ≤ B + 1; omega) _).setCell (p := ⟨B + 1, 2, none⟩) (by show B ≤ B + 1; omega) _).setCell (p := ⟨B + 1, 3, none⟩) (by show B ≤ B + 1; omega) _).setCell (p := ⟨B + 1, 4, none⟩) (by show B ≤ B + 1; omega) _

def ints (l : List (ByteArray × Int)) : List Value := l.map fun p => .int .i64 p.2
theorem ints_succ (l : List (ByteArray × Int)) (k : Nat) (hkl : k < l.length) : ints (l.take k) ++ [.int .i64 l[k].2] = ints (l.take (k + 1)) := by
  unfold ints
  rw [List.take_succ_eq_append_getElem hkl, List.map_append]
  rfl
def endS : ByteArray := ⟨#[101, 110, 100]⟩
/-- a way's steps as the document has them: at its end, beside a fault and a number, a step -/
def stepsOf (pl : List (ByteArray × Int)) (e at_ : Int) : List (ByteArray × Int) := if e = 0 then pl ++ [(endS, at_)] else pl

set_option maxRecDepth 100000 in
set_option maxHeartbeats 16000000 in
theorem of_any (a1 a2 : Option Addr) (c1 n2 c2 : Nat) (pl : List (ByteArray × Int)) (en : Int) (hen : 0 ≤ en) (hen2 : en ≤ 255) (code at_ : Int) (w : World) (h60 : pl.length ≤ 60) (_hn2 : n2 ≤ 9223372036854775807)
    (hw : pl.length = 0 ∨ ∃ b o, a1 = some ⟨b, o, none⟩ ∧ b < w.heap.size ∧ ∀ k (h : k < pl.length), w.cell? ⟨b, o + k, none⟩ = some (.string pl[k].1))
    (hz : n2 = 0 ∨ ∃ b o, a2 = some ⟨b, o, none⟩ ∧ b < w.heap.size ∧ ∀ k (h : k < pl.length), k < n2 → w.cell? ⟨b, o + k, none⟩ = some (.int .i64 pl[k].2))
    (hz0 : ∀ k (h : k < pl.length), n2 ≤ k → pl[k].2 = 0) :
    Calls Tryd.prog 9 #[.agg #[.slice a1 pl.length c1, .slice a2 n2 c2, .int .u8 en, .int .i64 code, .int .i64 at_]] w fun ev w' => ∃ y1 y2, ev = .returned (.agg #[y1, y2, .int .i64 (en % 3), .int .i64 code, .int .i64 at_]) ∧
      w'.ownsRow w.heap.size 9 1 y1 (stepsOf pl (en % 3) at_).length (strs (stepsOf pl (en % 3) at_)) ∧ w'.ownsRow w.heap.size 3 1 y2 (stepsOf pl (en % 3) at_).length (ints (stepsOf pl (en % 3) at_)) ∧ Below w.heap.size w w' := by
  obtain ⟨i9, hi9, hz90, hz91, hz92⟩ := info_parts info9
  obtain ⟨i3, hi3, hz30, hz31, hz32⟩ := info_parts info3
  go_enter Tryd.func9, Tryd.ntmps9
  go_wp2
  go_loopw [19] (fun i wr => ∃ (k : Nat) (v1 v2 : Value), k ≤ pl.length ∧ i = .int .i64 k ∧ Made w.heap.size #[.slice a1 pl.length c1, .slice a2 n2 c2, .int .u8 en, .int .i64 code, .int .i64 at_] (en % 3) code at_ w wr v1 v2 k (strs (pl.take k)) (ints (pl.take k)))
      (fun i _ => pl.length - (intOf i).toNat)
  case atStart =>
    refine ⟨0, _, _, Nat.zero_le _, rfl, ?_, ?_, ?_, World.ownsRow_nil _ _ _ _, World.ownsRow_nil _ _ _ _, ?_⟩
    · exact block_alloc' (block_alloc' (heap_alloc_new w _) _) _
    · have h := block_alloc' (heap_alloc_new (w.alloc (.cells #[.slice a1 pl.length c1, .slice a2 n2 c2, .int .u8 en, .int .i64 code, .int .i64 at_] 25)) (.cells #[.slice none 0 0, .slice none 0 0, .int .i64 0, .int .i64 0, .int .i64 0] 29)) (.cells #[.slice none 0 0, .slice none 0 0, .int .i64 (en % 3), .int .i64 code, .int .i64 at_] 29)
      rw [World.size_alloc] at h; exact h
    · have h := heap_alloc_new ((w.alloc (.cells #[.slice a1 pl.length c1, .slice a2 n2 c2, .int .u8 en, .int .i64 code, .int .i64 at_] 25)).alloc (.cells #[.slice none 0 0, .slice none 0 0, .int .i64 0, .int .i64 0, .int .i64 0] 29)) (.cells #[.slice none 0 0, .slice none 0 0, .int .i64 (en % 3), .int .i64 code, .int .i64 at_] 29)
      rw [World.size_alloc, World.size_alloc] at h; exact h
    · exact (((Below.refl _ _).alloc (Nat.le_refl _) _).alloc (by simp) _).alloc (by simp; omega) _
  case round =>
    obtain ⟨k, v1, v2, hk, rfl, hM⟩ := hrel
    have x0 := block_cell hM.box 0
    have x1 := block_cell hM.box 1
    have m0 := block_cell hM.way 0
    have m1 := block_cell hM.way 1
    simp at x0 x1 m0 m1
    have s3 : w.heap.size + 3 ≤ wr.heap.size := by have := lt_of_block' hM.way; omega
    by_cases hkn : k < pl.length
    · obtain ⟨b, o, rfl, hb, hcw⟩ : ∃ b o, a1 = some ⟨b, o, none⟩ ∧ b < w.heap.size ∧ ∀ k (h : k < pl.length), w.cell? ⟨b, o + k, none⟩ = some (.string pl[k].1) := by
        rcases hw with h | h
        · omega
        · exact h
      have hkw : k < pl.length := hkn
      have d0 : wr.cell? ⟨b, o + k, none⟩ = some (.string pl[k].1) := by rw [hM.below.cell (p := ⟨b, o + k, none⟩) hb]; exact hcw k hkw
      obtain ⟨s, hs⟩ : ∃ s, s = pl[k].1 := ⟨_, rfl⟩
      rw [← hs] at d0
      have HS := Lib.hid hs
      have ZS := ints_succ pl k hkw
      by_cases hk2 : k < n2
      · obtain ⟨b2, o2, rfl, hb2, hcz⟩ : ∃ b o, a2 = some ⟨b, o, none⟩ ∧ b < w.heap.size ∧ ∀ k (h : k < pl.length), k < n2 → w.cell? ⟨b, o + k, none⟩ = some (.int .i64 pl[k].2) := by
          rcases hz with h | h
          · omega
          · exact h
        have e0 : wr.cell? ⟨b2, o2 + k, none⟩ = some (.int .i64 pl[k].2) := by rw [hM.below.cell (p := ⟨b2, o2 + k, none⟩) hb2]; exact hcz k hkw hk2
        obtain ⟨z, hz'⟩ : ∃ z, z = pl[k].2 := ⟨_, rfl⟩
        rw [← hz'] at e0 ZS
        have HZS := Lib.hid ZS
        have HM := Lib.hid hM
        clear hs hM hcw hw hz hcz hz' hz0 ZS
        go_upto_block 1 with (fail)
        go_cut [] (fun wc => ∃ y1 y2, Made w.heap.size #[.slice (some ⟨b, o, none⟩) pl.length c1, .slice (some ⟨b2, o2, none⟩) n2 c2, .int .u8 en, .int .i64 code, .int .i64 at_] (en % 3) code at_ w wc y1 y2 (k + 1) (strs (pl.take k) ++ [.string s]) (ints (pl.take k) ++ [.int .i64 z]))
        case rest =>
          obtain ⟨y1, y2, hM2⟩ := hcut
          rw [HS.out, strs_succ pl k hkw, HZS.out] at hM2
          have HM2 := Lib.hid hM2
          clear hM2 x0 x1 m0 m1 HM
          go_wp2
          go_roundw
          case rel => exact ⟨k + 1, _, _, by omega, by go_num, HM2.out⟩
          case measure => simp [intOf]; omega
        case first =>
          have ow1 : wr.drew.ownsRow _ _ _ _ _ _ := HM.out.own1.drew
          have ow2 : wr.drew.ownsRow _ _ _ _ _ _ := HM.out.own2.drew
          have HH := Lib.hid (HM.out.half)
          have ma0 := fun o => cell_alloc' m0 o
          have ma1 := fun o => cell_alloc' m1 o
          have mb0 := fun o p => cell_alloc' (cell_alloc' m0 o) p
          have mb1 := fun o p => cell_alloc' (cell_alloc' m1 o) p
          have z0 := block_free HM.out.way 0
          have z1 := block_free HM.out.way 1
          go_wp2
          clear d0
          refine wp_region_but (fun u => u.cell? ⟨w.heap.size + 1 + 1, 0, none⟩ = some v1 ∧ u.cell? ⟨w.heap.size + 1 + 1, 1, none⟩ = some v2) (fun i => [0, 2, 5, 7, 10, 11, 12, 13].contains i) (by kernel_rfl) ?_
          refine AnyBut.pure (i := 0) (v := ?_) rfl (by kernel_rfl) (by kernel_rfl) (by kernel_rfl) (by kernel_rfl) (fun _ _ _ h => h) (Or.inl ⟨by rfl, ?_⟩) ?_
          rotate_left
          · intro u _; go_simp; first | done | with_reducible rfl
          try simp only [Act.put, List.setIfInBounds_toArray]
          refine AnyBut.pure (i := 2) (v := ?_) rfl (by kernel_rfl) (by kernel_rfl) (by kernel_rfl) (by kernel_rfl) (fun _ _ _ h => h) (Or.inl ⟨by rfl, ?_⟩) ?_
          rotate_left
          · intro u _; go_simp; first | done | with_reducible rfl
          try simp only [Act.put]
          refine AnyBut.pure (i := 5) (v := ?_) rfl (by kernel_rfl) (by kernel_rfl) (by kernel_rfl) (by kernel_rfl) (fun _ _ _ h => h) (Or.inl ⟨by rfl, ?_⟩) ?_
          rotate_left
          · intro u _; go_simp; first | done | with_reducible rfl
          try simp only [Act.put]
          refine AnyBut.pure (i := 7) (v := ?_) rfl (by kernel_rfl) (by kernel_rfl) (by kernel_rfl) (by kernel_rfl) (fun _ _ _ h => h) (Or.inl ⟨by rfl, ?_⟩) ?_
          rotate_left
          · intro u _; go_simp; first | done | with_reducible rfl
          try simp only [Act.put]
          refine AnyBut.take (i := 1) (v := ?_) rfl (by kernel_rfl) (by kernel_rfl) (by kernel_rfl) (by kernel_rfl) (fun _ _ _ h => h) (Or.inl ⟨by rfl, ?_⟩) ⟨by first | exact m0 | exact ma0 _ | exact mb0 _ _ | exact w10 | exact wa0 _, by first | exact m1 | exact ma1 _ | exact mb1 _ _ | exact w11 | exact wa1 _⟩ ?_
          rotate_left
          · rintro u ⟨hu0, hu1⟩; go_simp; first | done | with_reducible rfl
          try simp only [Act.put]
          refine AnyBut.take (i := 6) (v := ?_) rfl (by kernel_rfl) (by kernel_rfl) (by kernel_rfl) (by kernel_rfl) (fun _ _ _ h => h) (Or.inl ⟨by rfl, ?_⟩) ⟨by first | exact m0 | exact ma0 _ | exact mb0 _ _ | exact w10 | exact wa0 _, by first | exact m1 | exact ma1 _ | exact mb1 _ _ | exact w11 | exact wa1 _⟩ ?_
          rotate_left
          · rintro u ⟨hu0, hu1⟩; go_simp; first | done | with_reducible rfl
          try simp only [Act.put]
          refine AnyBut.all (rs := [3, 8]) (by kernel_rfl) (by simp) ?_
          intro j hj
          have hj' : j = 3 ∨ j = 8 := by simpa using hj
          rcases hj' with rfl | rfl
          · clear hj
            refine wpOp_step (o := _) rfl (fun K' hK' => ?_)
            go_simp
            refine hK' _ _ ⟨Or.inr ⟨by first | exact m0 | exact ma0 _ | exact mb0 _ _ | exact w10 | exact wa0 _, by first | exact m1 | exact ma1 _ | exact mb1 _ _ | exact w11 | exact wa1 _⟩, ?_⟩
            clear hK'
            try simp only [Act.put, List.setIfInBounds_toArray, List.set_cons_zero, List.set_cons_succ]
            refine AnyBut.all (rs := [4, 8]) (by kernel_rfl) (by simp) ?_
            intro j hj
            have hj' : j = 4 ∨ j = 8 := by simpa using hj
            rcases hj' with rfl | rfl
            · clear hj
              refine wpOp_step (o := _) rfl (fun K' hK' => ?_)
              refine step_append_own rfl (.tmp 35) (.tmp 37) 22 rfl (w.heap.size + 3) 9 i9 _ 1 16 Tryd.underlying22 hi9 hz90 hz91 hz92 rfl (by decide) v1 k _ rfl (by first | exact ow1 | exact World.ownsRow.alloc ow1 _ | exact World.ownsRow.alloc (World.ownsRow.alloc ow1 _) _) _ 1 1 [.string s] rfl rfl (one_new (by first | exact cellA _ _ _ | exact cellB _ _ _ _ | exact cellC _ _ _ _)) (by intro u hu; simp only [List.mem_cons, List.not_mem_nil, or_false] at hu; rcases hu with rfl; rfl) (by unfold maxLen; omega) (by omega) (by first | omega | (simp; omega)) ?_
              intro y1 W1 hy1 hg1
              have hH1 := (HH.out.ext (by first | exact Below.refl _ _ | exact (Below.refl _ _).alloc (Nat.le_refl _) _ | exact ((Below.refl _ _).alloc (Nat.le_refl _) _).alloc (by simp) _ | exact (Below.refl _ _).drew | exact ((Below.refl _ _).drew).alloc (Nat.le_refl _) _ | exact (((Below.refl _ _).drew).alloc (Nat.le_refl _) _).alloc (by simp) _)).grown hg1 (fun k hk => (ow1.lt k hk).1)
              have oz2 := World.ownsRow.kept (by first | exact ow2 | exact World.ownsRow.alloc ow2 _ | exact World.ownsRow.alloc (World.ownsRow.alloc ow2 _) _) hg1 (rows_apart ow1 ow2 (by decide))
              have gk1 := keep_new ow1 hg1
              have w10 := block_cell hH1.way 0
              have w11 := block_cell hH1.way 1
              have wx4 := block_cell hH1.box 4
              simp at w10 w11 wx4
              have wa0 := fun o => cell_alloc' w10 o
              have wa1 := fun o => cell_alloc' w11 o
              have wb4 := fun o => cell_alloc' wx4 o
              have Hh1 := Lib.hid hH1
              clear hH1
              have sz1 := hg1.size
              simp at sz1
              clear hg1
              rcases owned_shape hy1 with ⟨_, h0⟩ | ⟨g1, p1, rfl, _⟩
              · exact absurd h0 (by omega)
              refine hK' _ _ ⟨Or.inr ⟨by first | exact m0 | exact ma0 _ | exact mb0 _ _ | exact w10 | exact wa0 _, by first | exact m1 | exact ma1 _ | exact mb1 _ _ | exact w11 | exact wa1 _⟩, ?_⟩
              clear hK'
              try simp only [Act.put, List.setIfInBounds_toArray]
              refine AnyBut.pure (i := 10) (v := ?_) rfl (by kernel_rfl) (by kernel_rfl) (by kernel_rfl) (by kernel_rfl) (fun _ _ _ h => h) (Or.inl ⟨by rfl, ?_⟩) ?_
              rotate_left
              · intro u _; go_simp; first | done | with_reducible rfl
              try simp only [Act.put]
              refine AnyBut.all (rs := [8]) (by kernel_rfl) (by simp) ?_
              intro j hj
              obtain rfl : j = 8 := by simpa using hj
              clear hj
              refine wpOp_step (o := _) rfl (fun K' hK' => ?_)
              go_simp
              refine hK' _ _ ⟨Or.inr ⟨by first | exact m0 | exact ma0 _ | exact mb0 _ _ | exact w10 | exact wa0 _, by first | exact m1 | exact ma1 _ | exact mb1 _ _ | exact w11 | exact wa1 _⟩, ?_⟩
              clear hK'
              try simp only [Act.put, List.setIfInBounds_toArray, List.set_cons_zero, List.set_cons_succ]
              refine AnyBut.all (rs := [9]) (by kernel_rfl) (by simp) ?_
              intro j hj
              obtain rfl : j = 9 := by simpa using hj
              clear hj
              refine wpOp_step (o := _) rfl (fun K' hK' => ?_)
              refine step_append_own rfl (.tmp 40) (.tmp 42) 23 rfl (w.heap.size + 3) 3 i3 _ 1 8 Tryd.underlying23 hi3 hz30 hz31 hz32 rfl (by decide) v2 k _ rfl (by first | exact oz2 | exact World.ownsRow.alloc oz2 _ | exact World.ownsRow.alloc (World.ownsRow.alloc oz2 _) _) _ 1 1 [.int .i64 z] rfl rfl (one_new (by first | exact cellA _ _ _ | exact cellB _ _ _ _ | exact cellC _ _ _ _ | exact gk1 _ _ (by first | omega | (simp; done)) (cellA _ _ _) | exact gk1 _ _ (by first | omega | (simp; done)) (cellB _ _ _ _) | exact gk1 _ _ (by first | omega | (simp; done)) (cellC _ _ _ _))) (by intro u hu; simp only [List.mem_cons, List.not_mem_nil, or_false] at hu; rcases hu with rfl; rfl) (by unfold maxLen; omega) (by omega) (by first | omega | (simp; omega)) ?_
              intro y2 W2 hy2 hg2
              have hH3 := (Hh1.out.ext (by first | exact Below.refl _ _ | exact (Below.refl _ _).alloc (Nat.le_refl _) _ | exact ((Below.refl _ _).alloc (Nat.le_refl _) _).alloc (by simp) _ | exact (Below.refl _ _).drew | exact ((Below.refl _ _).drew).alloc (Nat.le_refl _) _ | exact (((Below.refl _ _).drew).alloc (Nat.le_refl _) _).alloc (by simp) _)).grown hg2 (fun k hk => (oz2.lt k hk).1)
              have oy1 := World.ownsRow.kept (by first | exact hy1 | exact World.ownsRow.alloc hy1 _ | exact World.ownsRow.alloc (World.ownsRow.alloc hy1 _) _) hg2 (rows_apart oz2 hy1 (by decide))
              rcases owned_shape hy2 with ⟨_, h0⟩ | ⟨g2, p2, rfl, _⟩
              · exact absurd h0 (by omega)
              have e0 := block_cell hH3.way 0
              have e1 := block_cell hH3.way 1
              have f0 := block_free hH3.way 0
              have f1 := block_free hH3.way 1
              simp at e0 e1
              have FIN := Lib.hid (hH3.stored oy1 hy2)
              clear hg2
              refine hK' _ _ ⟨Or.inr ⟨e0, e1⟩, ?_⟩
              clear hK' hH3
              try simp only [Act.put, List.setIfInBounds_toArray]
              refine AnyBut.all (rs := [11]) (by kernel_rfl) (by simp) ?_
              intro j hj
              obtain rfl : j = 11 := by simpa using hj
              clear hj
              refine wpOp_step (o := _) rfl (fun K' hK' => ?_)
              go_simp
              refine hK' _ _ ⟨Or.inl (by rfl), ?_⟩
              clear hK'
              try simp only [Act.put, List.setIfInBounds_toArray, List.set_cons_zero, List.set_cons_succ]
              refine AnyBut.pure (i := 12) (v := ?_) rfl (by kernel_rfl) (by kernel_rfl) (by kernel_rfl) (by kernel_rfl) (fun _ _ _ h => h) (Or.inl ⟨by rfl, ?_⟩) ?_
              rotate_left
              · intro u _; go_simp; first | done | with_reducible rfl
              try simp only [Act.put, List.setIfInBounds_toArray]
              refine AnyBut.all (rs := [13]) (by kernel_rfl) (by simp) ?_
              intro j hj
              obtain rfl : j = 13 := by simpa using hj
              clear hj
              refine wpOp_step (o := _) rfl (fun K' hK' => ?_)
              go_simp
              refine hK' _ _ ⟨Or.inl (by rfl), ?_⟩
              clear hK'
              try simp only [Act.put, List.setIfInBounds_toArray, List.set_cons_zero, List.set_cons_succ]
              refine AnyBut.over (by kernel_rfl) ?_ _
              try simp only [Act.put, List.setIfInBounds_toArray, List.set_cons_zero, List.set_cons_succ]
              (clear ow1 ow2 ma0 ma1 mb0 mb1 m0 m1 z0 z1 HH e0 e1 f0 f1 w10 w11 wx4 wa0 wa1 wb4; go_wp2_with fail; go_meet; exact ⟨_, _, FIN.out⟩)
            · clear hj
              refine wpOp_step (o := _) rfl (fun K' hK' => ?_)
              go_simp
              refine hK' _ _ ⟨Or.inr ⟨by first | exact m0 | exact ma0 _ | exact mb0 _ _ | exact w10 | exact wa0 _, by first | exact m1 | exact ma1 _ | exact mb1 _ _ | exact w11 | exact wa1 _⟩, ?_⟩
              clear hK'
              try simp only [Act.put, List.setIfInBounds_toArray, List.set_cons_zero, List.set_cons_succ]
              refine AnyBut.all (rs := [4]) (by kernel_rfl) (by simp) ?_
              intro j hj
              obtain rfl : j = 4 := by simpa using hj
              clear hj
              refine wpOp_step (o := _) rfl (fun K' hK' => ?_)
              refine step_append_own rfl (.tmp 35) (.tmp 37) 22 rfl (w.heap.size + 3) 9 i9 _ 1 16 Tryd.underlying22 hi9 hz90 hz91 hz92 rfl (by decide) v1 k _ rfl (by first | exact ow1 | exact World.ownsRow.alloc ow1 _ | exact World.ownsRow.alloc (World.ownsRow.alloc ow1 _) _) _ 1 1 [.string s] rfl rfl (one_new (by first | exact cellA _ _ _ | exact cellB _ _ _ _ | exact cellC _ _ _ _)) (by intro u hu; simp only [List.mem_cons, List.not_mem_nil, or_false] at hu; rcases hu with rfl; rfl) (by unfold maxLen; omega) (by omega) (by first | omega | (simp; omega)) ?_
              intro y1 W1 hy1 hg1
              have hH1 := (HH.out.ext (by first | exact Below.refl _ _ | exact (Below.refl _ _).alloc (Nat.le_refl _) _ | exact ((Below.refl _ _).alloc (Nat.le_refl _) _).alloc (by simp) _ | exact (Below.refl _ _).drew | exact ((Below.refl _ _).drew).alloc (Nat.le_refl _) _ | exact (((Below.refl _ _).drew).alloc (Nat.le_refl _) _).alloc (by simp) _)).grown hg1 (fun k hk => (ow1.lt k hk).1)
              have oz2 := World.ownsRow.kept (by first | exact ow2 | exact World.ownsRow.alloc ow2 _ | exact World.ownsRow.alloc (World.ownsRow.alloc ow2 _) _) hg1 (rows_apart ow1 ow2 (by decide))
              have gk1 := keep_new ow1 hg1
              have w10 := block_cell hH1.way 0
              have w11 := block_cell hH1.way 1
              have wx4 := block_cell hH1.box 4
              simp at w10 w11 wx4
              have wa0 := fun o => cell_alloc' w10 o
              have wa1 := fun o => cell_alloc' w11 o
              have wb4 := fun o => cell_alloc' wx4 o
              have Hh1 := Lib.hid hH1
              clear hH1
              have sz1 := hg1.size
              simp at sz1
              clear hg1
              rcases owned_shape hy1 with ⟨_, h0⟩ | ⟨g1, p1, rfl, _⟩
              · exact absurd h0 (by omega)
              refine hK' _ _ ⟨Or.inr ⟨by first | exact m0 | exact ma0 _ | exact mb0 _ _ | exact w10 | exact wa0 _, by first | exact m1 | exact ma1 _ | exact mb1 _ _ | exact w11 | exact wa1 _⟩, ?_⟩
              clear hK'
              try simp only [Act.put, List.setIfInBounds_toArray]
              refine AnyBut.pure (i := 10) (v := ?_) rfl (by kernel_rfl) (by kernel_rfl) (by kernel_rfl) (by kernel_rfl) (fun _ _ _ h => h) (Or.inl ⟨by rfl, ?_⟩) ?_
              rotate_left
              · intro u _; go_simp; first | done | with_reducible rfl
              try simp only [Act.put]
              refine AnyBut.all (rs := [9]) (by kernel_rfl) (by simp) ?_
              intro j hj
              obtain rfl : j = 9 := by simpa using hj
              clear hj
              refine wpOp_step (o := _) rfl (fun K' hK' => ?_)
              refine step_append_own rfl (.tmp 40) (.tmp 42) 23 rfl (w.heap.size + 3) 3 i3 _ 1 8 Tryd.underlying23 hi3 hz30 hz31 hz32 rfl (by decide) v2 k _ rfl (by first | exact oz2 | exact World.ownsRow.alloc oz2 _ | exact World.ownsRow.alloc (World.ownsRow.alloc oz2 _) _) _ 1 1 [.int .i64 z] rfl rfl (one_new (by first | exact cellA _ _ _ | exact cellB _ _ _ _ | exact cellC _ _ _ _ | exact gk1 _ _ (by first | omega | (simp; done)) (cellA _ _ _) | exact gk1 _ _ (by first | omega | (simp; done)) (cellB _ _ _ _) | exact gk1 _ _ (by first | omega | (simp; done)) (cellC _ _ _ _))) (by intro u hu; simp only [List.mem_cons, List.not_mem_nil, or_false] at hu; rcases hu with rfl; rfl) (by unfold maxLen; omega) (by omega) (by first | omega | (simp; omega)) ?_
              intro y2 W2 hy2 hg2
              have hH3 := (Hh1.out.ext (by first | exact Below.refl _ _ | exact (Below.refl _ _).alloc (Nat.le_refl _) _ | exact ((Below.refl _ _).alloc (Nat.le_refl _) _).alloc (by simp) _ | exact (Below.refl _ _).drew | exact ((Below.refl _ _).drew).alloc (Nat.le_refl _) _ | exact (((Below.refl _ _).drew).alloc (Nat.le_refl _) _).alloc (by simp) _)).grown hg2 (fun k hk => (oz2.lt k hk).1)
              have oy1 := World.ownsRow.kept (by first | exact hy1 | exact World.ownsRow.alloc hy1 _ | exact World.ownsRow.alloc (World.ownsRow.alloc hy1 _) _) hg2 (rows_apart oz2 hy1 (by decide))
              rcases owned_shape hy2 with ⟨_, h0⟩ | ⟨g2, p2, rfl, _⟩
              · exact absurd h0 (by omega)
              have e0 := block_cell hH3.way 0
              have e1 := block_cell hH3.way 1
              have f0 := block_free hH3.way 0
              have f1 := block_free hH3.way 1
              simp at e0 e1
              have FIN := Lib.hid (hH3.stored oy1 hy2)
              clear hg2
              refine hK' _ _ ⟨Or.inr ⟨e0, e1⟩, ?_⟩
              clear hK' hH3
              try simp only [Act.put]
              refine AnyBut.all (rs := [11]) (by kernel_rfl) (by simp) ?_
              intro j hj
              obtain rfl : j = 11 := by simpa using hj
              clear hj
              refine wpOp_step (o := _) rfl (fun K' hK' => ?_)
              go_simp
              refine hK' _ _ ⟨Or.inl (by rfl), ?_⟩
              clear hK'
              try simp only [Act.put, List.setIfInBounds_toArray, List.set_cons_zero, List.set_cons_succ]
              refine AnyBut.pure (i := 12) (v := ?_) rfl (by kernel_rfl) (by kernel_rfl) (by kernel_rfl) (by kernel_rfl) (fun _ _ _ h => h) (Or.inl ⟨by rfl, ?_⟩) ?_
              rotate_left
              · intro u _; go_simp; first | done | with_reducible rfl
              try simp only [Act.put, List.setIfInBounds_toArray]
              refine AnyBut.all (rs := [13]) (by kernel_rfl) (by simp) ?_
              intro j hj
              obtain rfl : j = 13 := by simpa using hj
              clear hj
              refine wpOp_step (o := _) rfl (fun K' hK' => ?_)
              go_simp
              refine hK' _ _ ⟨Or.inl (by rfl), ?_⟩
              clear hK'
              try simp only [Act.put, List.setIfInBounds_toArray, List.set_cons_zero, List.set_cons_succ]
              refine AnyBut.over (by kernel_rfl) ?_ _
              try simp only [Act.put, List.setIfInBounds_toArray, List.set_cons_zero, List.set_cons_succ]
              (clear ow1 ow2 ma0 ma1 mb0 mb1 m0 m1 z0 z1 HH e0 e1 f0 f1 w10 w11 wx4 wa0 wa1 wb4; go_wp2_with fail; go_meet; exact ⟨_, _, FIN.out⟩)
          · clear hj
            refine wpOp_step (o := _) rfl (fun K' hK' => ?_)
            go_simp
            refine hK' _ _ ⟨Or.inr ⟨by first | exact m0 | exact ma0 _ | exact mb0 _ _ | exact w10 | exact wa0 _, by first | exact m1 | exact ma1 _ | exact mb1 _ _ | exact w11 | exact wa1 _⟩, ?_⟩
            clear hK'
            try simp only [Act.put, List.setIfInBounds_toArray, List.set_cons_zero, List.set_cons_succ]
            refine AnyBut.all (rs := [3]) (by kernel_rfl) (by simp) ?_
            intro j hj
            obtain rfl : j = 3 := by simpa using hj
            clear hj
            refine wpOp_step (o := _) rfl (fun K' hK' => ?_)
            go_simp
            refine hK' _ _ ⟨Or.inr ⟨by first | exact m0 | exact ma0 _ | exact mb0 _ _ | exact w10 | exact wa0 _, by first | exact m1 | exact ma1 _ | exact mb1 _ _ | exact w11 | exact wa1 _⟩, ?_⟩
            clear hK'
            try simp only [Act.put, List.setIfInBounds_toArray, List.set_cons_zero, List.set_cons_succ]
            refine AnyBut.all (rs := [4]) (by kernel_rfl) (by simp) ?_
            intro j hj
            obtain rfl : j = 4 := by simpa using hj
            clear hj
            refine wpOp_step (o := _) rfl (fun K' hK' => ?_)
            refine step_append_own rfl (.tmp 35) (.tmp 37) 22 rfl (w.heap.size + 3) 9 i9 _ 1 16 Tryd.underlying22 hi9 hz90 hz91 hz92 rfl (by decide) v1 k _ rfl (by first | exact ow1 | exact World.ownsRow.alloc ow1 _ | exact World.ownsRow.alloc (World.ownsRow.alloc ow1 _) _) _ 1 1 [.string s] rfl rfl (one_new (by first | exact cellA _ _ _ | exact cellB _ _ _ _ | exact cellC _ _ _ _)) (by intro u hu; simp only [List.mem_cons, List.not_mem_nil, or_false] at hu; rcases hu with rfl; rfl) (by unfold maxLen; omega) (by omega) (by first | omega | (simp; omega)) ?_
            intro y1 W1 hy1 hg1
            have hH1 := (HH.out.ext (by first | exact Below.refl _ _ | exact (Below.refl _ _).alloc (Nat.le_refl _) _ | exact ((Below.refl _ _).alloc (Nat.le_refl _) _).alloc (by simp) _ | exact (Below.refl _ _).drew | exact ((Below.refl _ _).drew).alloc (Nat.le_refl _) _ | exact (((Below.refl _ _).drew).alloc (Nat.le_refl _) _).alloc (by simp) _)).grown hg1 (fun k hk => (ow1.lt k hk).1)
            have oz2 := World.ownsRow.kept (by first | exact ow2 | exact World.ownsRow.alloc ow2 _ | exact World.ownsRow.alloc (World.ownsRow.alloc ow2 _) _) hg1 (rows_apart ow1 ow2 (by decide))
            have gk1 := keep_new ow1 hg1
            have w10 := block_cell hH1.way 0
            have w11 := block_cell hH1.way 1
            have wx4 := block_cell hH1.box 4
            simp at w10 w11 wx4
            have wa0 := fun o => cell_alloc' w10 o
            have wa1 := fun o => cell_alloc' w11 o
            have wb4 := fun o => cell_alloc' wx4 o
            have Hh1 := Lib.hid hH1
            clear hH1
            have sz1 := hg1.size
            simp at sz1
            clear hg1
            rcases owned_shape hy1 with ⟨_, h0⟩ | ⟨g1, p1, rfl, _⟩
            · exact absurd h0 (by omega)
            refine hK' _ _ ⟨Or.inr ⟨by first | exact m0 | exact ma0 _ | exact mb0 _ _ | exact w10 | exact wa0 _, by first | exact m1 | exact ma1 _ | exact mb1 _ _ | exact w11 | exact wa1 _⟩, ?_⟩
            clear hK'
            try simp only [Act.put, List.setIfInBounds_toArray]
            refine AnyBut.pure (i := 10) (v := ?_) rfl (by kernel_rfl) (by kernel_rfl) (by kernel_rfl) (by kernel_rfl) (fun _ _ _ h => h) (Or.inl ⟨by rfl, ?_⟩) ?_
            rotate_left
            · intro u _; go_simp; first | done | with_reducible rfl
            try simp only [Act.put]
            refine AnyBut.all (rs := [9]) (by kernel_rfl) (by simp) ?_
            intro j hj
            obtain rfl : j = 9 := by simpa using hj
            clear hj
            refine wpOp_step (o := _) rfl (fun K' hK' => ?_)
            refine step_append_own rfl (.tmp 40) (.tmp 42) 23 rfl (w.heap.size + 3) 3 i3 _ 1 8 Tryd.underlying23 hi3 hz30 hz31 hz32 rfl (by decide) v2 k _ rfl (by first | exact oz2 | exact World.ownsRow.alloc oz2 _ | exact World.ownsRow.alloc (World.ownsRow.alloc oz2 _) _) _ 1 1 [.int .i64 z] rfl rfl (one_new (by first | exact cellA _ _ _ | exact cellB _ _ _ _ | exact cellC _ _ _ _ | exact gk1 _ _ (by first | omega | (simp; done)) (cellA _ _ _) | exact gk1 _ _ (by first | omega | (simp; done)) (cellB _ _ _ _) | exact gk1 _ _ (by first | omega | (simp; done)) (cellC _ _ _ _))) (by intro u hu; simp only [List.mem_cons, List.not_mem_nil, or_false] at hu; rcases hu with rfl; rfl) (by unfold maxLen; omega) (by omega) (by first | omega | (simp; omega)) ?_
            intro y2 W2 hy2 hg2
            have hH3 := (Hh1.out.ext (by first | exact Below.refl _ _ | exact (Below.refl _ _).alloc (Nat.le_refl _) _ | exact ((Below.refl _ _).alloc (Nat.le_refl _) _).alloc (by simp) _ | exact (Below.refl _ _).drew | exact ((Below.refl _ _).drew).alloc (Nat.le_refl _) _ | exact (((Below.refl _ _).drew).alloc (Nat.le_refl _) _).alloc (by simp) _)).grown hg2 (fun k hk => (oz2.lt k hk).1)
            have oy1 := World.ownsRow.kept (by first | exact hy1 | exact World.ownsRow.alloc hy1 _ | exact World.ownsRow.alloc (World.ownsRow.alloc hy1 _) _) hg2 (rows_apart oz2 hy1 (by decide))
            rcases owned_shape hy2 with ⟨_, h0⟩ | ⟨g2, p2, rfl, _⟩
            · exact absurd h0 (by omega)
            have e0 := block_cell hH3.way 0
            have e1 := block_cell hH3.way 1
            have f0 := block_free hH3.way 0
            have f1 := block_free hH3.way 1
            simp at e0 e1
            have FIN := Lib.hid (hH3.stored oy1 hy2)
            clear hg2
            refine hK' _ _ ⟨Or.inr ⟨e0, e1⟩, ?_⟩
            clear hK' hH3
            try simp only [Act.put]
            refine AnyBut.all (rs := [11]) (by kernel_rfl) (by simp) ?_
            intro j hj
            obtain rfl : j = 11 := by simpa using hj
            clear hj
            refine wpOp_step (o := _) rfl (fun K' hK' => ?_)
            go_simp
            refine hK' _ _ ⟨Or.inl (by rfl), ?_⟩
            clear hK'
            try simp only [Act.put, List.setIfInBounds_toArray, List.set_cons_zero, List.set_cons_succ]
            refine AnyBut.pure (i := 12) (v := ?_) rfl (by kernel_rfl) (by kernel_rfl) (by kernel_rfl) (by kernel_rfl) (fun _ _ _ h => h) (Or.inl ⟨by rfl, ?_⟩) ?_
            rotate_left
            · intro u _; go_simp; first | done | with_reducible rfl
            try simp only [Act.put, List.setIfInBounds_toArray]
            refine AnyBut.all (rs := [13]) (by kernel_rfl) (by simp) ?_
            intro j hj
            obtain rfl : j = 13 := by simpa using hj
            clear hj
            refine wpOp_step (o := _) rfl (fun K' hK' => ?_)
            go_simp
            refine hK' _ _ ⟨Or.inl (by rfl), ?_⟩
            clear hK'
            try simp only [Act.put, List.setIfInBounds_toArray, List.set_cons_zero, List.set_cons_succ]
            refine AnyBut.over (by kernel_rfl) ?_ _
            try simp only [Act.put, List.setIfInBounds_toArray, List.set_cons_zero, List.set_cons_succ]
            (clear ow1 ow2 ma0 ma1 mb0 mb1 m0 m1 z0 z1 HH e0 e1 f0 f1 w10 w11 wx4 wa0 wa1 wb4; go_wp2_with fail; go_meet; exact ⟨_, _, FIN.out⟩)

      · have hz1 : pl[k].2 = 0 := hz0 k hkw (by omega)
        rw [hz1] at ZS
        have HZS := Lib.hid ZS
        have HM := Lib.hid hM
        clear hs hM hcw hw hz hz0 hz1 ZS
        go_upto_block 1 with (fail)
        go_cut [] (fun wc => ∃ y1 y2, Made w.heap.size #[.slice (some ⟨b, o, none⟩) pl.length c1, .slice a2 n2 c2, .int .u8 en, .int .i64 code, .int .i64 at_] (en % 3) code at_ w wc y1 y2 (k + 1) (strs (pl.take k) ++ [.string s]) (ints (pl.take k) ++ [.int .i64 0]))
        case rest =>
          obtain ⟨y1, y2, hM2⟩ := hcut
          rw [HS.out, strs_succ pl k hkw, HZS.out] at hM2
          have HM2 := Lib.hid hM2
          clear hM2 x0 x1 m0 m1 HM
          go_wp2
          go_roundw
          case rel => exact ⟨k + 1, _, _, by omega, by go_num, HM2.out⟩
          case measure => simp [intOf]; omega
        case first =>
          have ow1 : wr.drew.ownsRow _ _ _ _ _ _ := HM.out.own1.drew
          have ow2 : wr.drew.ownsRow _ _ _ _ _ _ := HM.out.own2.drew
          have HH := Lib.hid (HM.out.half)
          have ma0 := fun o => cell_alloc' m0 o
          have ma1 := fun o => cell_alloc' m1 o
          have mb0 := fun o p => cell_alloc' (cell_alloc' m0 o) p
          have mb1 := fun o p => cell_alloc' (cell_alloc' m1 o) p
          have z0 := block_free HM.out.way 0
          have z1 := block_free HM.out.way 1
          go_wp2
          clear d0
          refine wp_region_but (fun u => u.cell? ⟨w.heap.size + 1 + 1, 0, none⟩ = some v1 ∧ u.cell? ⟨w.heap.size + 1 + 1, 1, none⟩ = some v2) (fun i => [0, 2, 5, 7, 10, 11, 12, 13].contains i) (by kernel_rfl) ?_
          refine AnyBut.pure (i := 0) (v := ?_) rfl (by kernel_rfl) (by kernel_rfl) (by kernel_rfl) (by kernel_rfl) (fun _ _ _ h => h) (Or.inl ⟨by rfl, ?_⟩) ?_
          rotate_left
          · intro u _; go_simp; first | done | with_reducible rfl
          try simp only [Act.put, List.setIfInBounds_toArray]
          refine AnyBut.pure (i := 2) (v := ?_) rfl (by kernel_rfl) (by kernel_rfl) (by kernel_rfl) (by kernel_rfl) (fun _ _ _ h => h) (Or.inl ⟨by rfl, ?_⟩) ?_
          rotate_left
          · intro u _; go_simp; first | done | with_reducible rfl
          try simp only [Act.put]
          refine AnyBut.pure (i := 5) (v := ?_) rfl (by kernel_rfl) (by kernel_rfl) (by kernel_rfl) (by kernel_rfl) (fun _ _ _ h => h) (Or.inl ⟨by rfl, ?_⟩) ?_
          rotate_left
          · intro u _; go_simp; first | done | with_reducible rfl
          try simp only [Act.put]
          refine AnyBut.pure (i := 7) (v := ?_) rfl (by kernel_rfl) (by kernel_rfl) (by kernel_rfl) (by kernel_rfl) (fun _ _ _ h => h) (Or.inl ⟨by rfl, ?_⟩) ?_
          rotate_left
          · intro u _; go_simp; first | done | with_reducible rfl
          try simp only [Act.put]
          refine AnyBut.take (i := 1) (v := ?_) rfl (by kernel_rfl) (by kernel_rfl) (by kernel_rfl) (by kernel_rfl) (fun _ _ _ h => h) (Or.inl ⟨by rfl, ?_⟩) ⟨by first | exact m0 | exact ma0 _ | exact mb0 _ _ | exact w10 | exact wa0 _, by first | exact m1 | exact ma1 _ | exact mb1 _ _ | exact w11 | exact wa1 _⟩ ?_
          rotate_left
          · rintro u ⟨hu0, hu1⟩; go_simp; first | done | with_reducible rfl
          try simp only [Act.put]
          refine AnyBut.take (i := 6) (v := ?_) rfl (by kernel_rfl) (by kernel_rfl) (by kernel_rfl) (by kernel_rfl) (fun _ _ _ h => h) (Or.inl ⟨by rfl, ?_⟩) ⟨by first | exact m0 | exact ma0 _ | exact mb0 _ _ | exact w10 | exact wa0 _, by first | exact m1 | exact ma1 _ | exact mb1 _ _ | exact w11 | exact wa1 _⟩ ?_
          rotate_left
          · rintro u ⟨hu0, hu1⟩; go_simp; first | done | with_reducible rfl
          try simp only [Act.put]
          refine AnyBut.all (rs := [3, 8]) (by kernel_rfl) (by simp) ?_
          intro j hj
          have hj' : j = 3 ∨ j = 8 := by simpa using hj
          rcases hj' with rfl | rfl
          · clear hj
            refine wpOp_step (o := _) rfl (fun K' hK' => ?_)
            go_simp
            refine hK' _ _ ⟨Or.inr ⟨by first | exact m0 | exact ma0 _ | exact mb0 _ _ | exact w10 | exact wa0 _, by first | exact m1 | exact ma1 _ | exact mb1 _ _ | exact w11 | exact wa1 _⟩, ?_⟩
            clear hK'
            try simp only [Act.put, List.setIfInBounds_toArray, List.set_cons_zero, List.set_cons_succ]
            refine AnyBut.all (rs := [4, 8]) (by kernel_rfl) (by simp) ?_
            intro j hj
            have hj' : j = 4 ∨ j = 8 := by simpa using hj
            rcases hj' with rfl | rfl
            · clear hj
              refine wpOp_step (o := _) rfl (fun K' hK' => ?_)
              refine step_append_own rfl (.tmp 35) (.tmp 37) 22 rfl (w.heap.size + 3) 9 i9 _ 1 16 Tryd.underlying22 hi9 hz90 hz91 hz92 rfl (by decide) v1 k _ rfl (by first | exact ow1 | exact World.ownsRow.alloc ow1 _ | exact World.ownsRow.alloc (World.ownsRow.alloc ow1 _) _) _ 1 1 [.string s] rfl rfl (one_new (by first | exact cellA _ _ _ | exact cellB _ _ _ _ | exact cellC _ _ _ _)) (by intro u hu; simp only [List.mem_cons, List.not_mem_nil, or_false] at hu; rcases hu with rfl; rfl) (by unfold maxLen; omega) (by omega) (by first | omega | (simp; omega)) ?_
              intro y1 W1 hy1 hg1
              have hH1 := (HH.out.ext (by first | exact Below.refl _ _ | exact (Below.refl _ _).alloc (Nat.le_refl _) _ | exact ((Below.refl _ _).alloc (Nat.le_refl _) _).alloc (by simp) _ | exact (Below.refl _ _).drew | exact ((Below.refl _ _).drew).alloc (Nat.le_refl _) _ | exact (((Below.refl _ _).drew).alloc (Nat.le_refl _) _).alloc (by simp) _)).grown hg1 (fun k hk => (ow1.lt k hk).1)
              have oz2 := World.ownsRow.kept (by first | exact ow2 | exact World.ownsRow.alloc ow2 _ | exact World.ownsRow.alloc (World.ownsRow.alloc ow2 _) _) hg1 (rows_apart ow1 ow2 (by decide))
              have gk1 := keep_new ow1 hg1
              have w10 := block_cell hH1.way 0
              have w11 := block_cell hH1.way 1
              have wx4 := block_cell hH1.box 4
              simp at w10 w11 wx4
              have wa0 := fun o => cell_alloc' w10 o
              have wa1 := fun o => cell_alloc' w11 o
              have wb4 := fun o => cell_alloc' wx4 o
              have Hh1 := Lib.hid hH1
              clear hH1
              have sz1 := hg1.size
              simp at sz1
              clear hg1
              rcases owned_shape hy1 with ⟨_, h0⟩ | ⟨g1, p1, rfl, _⟩
              · exact absurd h0 (by omega)
              refine hK' _ _ ⟨Or.inr ⟨by first | exact m0 | exact ma0 _ | exact mb0 _ _ | exact w10 | exact wa0 _, by first | exact m1 | exact ma1 _ | exact mb1 _ _ | exact w11 | exact wa1 _⟩, ?_⟩
              clear hK'
              try simp only [Act.put, List.setIfInBounds_toArray]
              refine AnyBut.pure (i := 10) (v := ?_) rfl (by kernel_rfl) (by kernel_rfl) (by kernel_rfl) (by kernel_rfl) (fun _ _ _ h => h) (Or.inl ⟨by rfl, ?_⟩) ?_
              rotate_left
              · intro u _; go_simp; first | done | with_reducible rfl
              try simp only [Act.put]
              refine AnyBut.all (rs := [8]) (by kernel_rfl) (by simp) ?_
              intro j hj
              obtain rfl : j = 8 := by simpa using hj
              clear hj
              refine wpOp_step (o := _) rfl (fun K' hK' => ?_)
              go_simp
              refine hK' _ _ ⟨Or.inr ⟨by first | exact m0 | exact ma0 _ | exact mb0 _ _ | exact w10 | exact wa0 _, by first | exact m1 | exact ma1 _ | exact mb1 _ _ | exact w11 | exact wa1 _⟩, ?_⟩
              clear hK'
              try simp only [Act.put, List.setIfInBounds_toArray, List.set_cons_zero, List.set_cons_succ]
              refine AnyBut.all (rs := [9]) (by kernel_rfl) (by simp) ?_
              intro j hj
              obtain rfl : j = 9 := by simpa using hj
              clear hj
              refine wpOp_step (o := _) rfl (fun K' hK' => ?_)
              refine step_append_own rfl (.tmp 40) (.tmp 42) 23 rfl (w.heap.size + 3) 3 i3 _ 1 8 Tryd.underlying23 hi3 hz30 hz31 hz32 rfl (by decide) v2 k _ rfl (by first | exact oz2 | exact World.ownsRow.alloc oz2 _ | exact World.ownsRow.alloc (World.ownsRow.alloc oz2 _) _) _ 1 1 [.int .i64 0] rfl rfl (one_new (by first | exact cellA _ _ _ | exact cellB _ _ _ _ | exact cellC _ _ _ _ | exact gk1 _ _ (by first | omega | (simp; done)) (cellA _ _ _) | exact gk1 _ _ (by first | omega | (simp; done)) (cellB _ _ _ _) | exact gk1 _ _ (by first | omega | (simp; done)) (cellC _ _ _ _))) (by intro u hu; simp only [List.mem_cons, List.not_mem_nil, or_false] at hu; rcases hu with rfl; rfl) (by unfold maxLen; omega) (by omega) (by first | omega | (simp; omega)) ?_
              intro y2 W2 hy2 hg2
              have hH3 := (Hh1.out.ext (by first | exact Below.refl _ _ | exact (Below.refl _ _).alloc (Nat.le_refl _) _ | exact ((Below.refl _ _).alloc (Nat.le_refl _) _).alloc (by simp) _ | exact (Below.refl _ _).drew | exact ((Below.refl _ _).drew).alloc (Nat.le_refl _) _ | exact (((Below.refl _ _).drew).alloc (Nat.le_refl _) _).alloc (by simp) _)).grown hg2 (fun k hk => (oz2.lt k hk).1)
              have oy1 := World.ownsRow.kept (by first | exact hy1 | exact World.ownsRow.alloc hy1 _ | exact World.ownsRow.alloc (World.ownsRow.alloc hy1 _) _) hg2 (rows_apart oz2 hy1 (by decide))
              rcases owned_shape hy2 with ⟨_, h0⟩ | ⟨g2, p2, rfl, _⟩
              · exact absurd h0 (by omega)
              have e0 := block_cell hH3.way 0
              have e1 := block_cell hH3.way 1
              have f0 := block_free hH3.way 0
              have f1 := block_free hH3.way 1
              simp at e0 e1
              have FIN := Lib.hid (hH3.stored oy1 hy2)
              clear hg2
              refine hK' _ _ ⟨Or.inr ⟨e0, e1⟩, ?_⟩
              clear hK' hH3
              try simp only [Act.put, List.setIfInBounds_toArray]
              refine AnyBut.all (rs := [11]) (by kernel_rfl) (by simp) ?_
              intro j hj
              obtain rfl : j = 11 := by simpa using hj
              clear hj
              refine wpOp_step (o := _) rfl (fun K' hK' => ?_)
              go_simp
              refine hK' _ _ ⟨Or.inl (by rfl), ?_⟩
              clear hK'
              try simp only [Act.put, List.setIfInBounds_toArray, List.set_cons_zero, List.set_cons_succ]
              refine AnyBut.pure (i := 12) (v := ?_) rfl (by kernel_rfl) (by kernel_rfl) (by kernel_rfl) (by kernel_rfl) (fun _ _ _ h => h) (Or.inl ⟨by rfl, ?_⟩) ?_
              rotate_left
              · intro u _; go_simp; first | done | with_reducible rfl
              try simp only [Act.put, List.setIfInBounds_toArray]
              refine AnyBut.all (rs := [13]) (by kernel_rfl) (by simp) ?_
              intro j hj
              obtain rfl : j = 13 := by simpa using hj
              clear hj
              refine wpOp_step (o := _) rfl (fun K' hK' => ?_)
              go_simp
              refine hK' _ _ ⟨Or.inl (by rfl), ?_⟩
              clear hK'
              try simp only [Act.put, List.setIfInBounds_toArray, List.set_cons_zero, List.set_cons_succ]
              refine AnyBut.over (by kernel_rfl) ?_ _
              try simp only [Act.put, List.setIfInBounds_toArray, List.set_cons_zero, List.set_cons_succ]
              (clear ow1 ow2 ma0 ma1 mb0 mb1 m0 m1 z0 z1 HH e0 e1 f0 f1 w10 w11 wx4 wa0 wa1 wb4; go_wp2_with fail; go_meet; exact ⟨_, _, FIN.out⟩)
            · clear hj
              refine wpOp_step (o := _) rfl (fun K' hK' => ?_)
              go_simp
              refine hK' _ _ ⟨Or.inr ⟨by first | exact m0 | exact ma0 _ | exact mb0 _ _ | exact w10 | exact wa0 _, by first | exact m1 | exact ma1 _ | exact mb1 _ _ | exact w11 | exact wa1 _⟩, ?_⟩
              clear hK'
              try simp only [Act.put, List.setIfInBounds_toArray, List.set_cons_zero, List.set_cons_succ]
              refine AnyBut.all (rs := [4]) (by kernel_rfl) (by simp) ?_
              intro j hj
              obtain rfl : j = 4 := by simpa using hj
              clear hj
              refine wpOp_step (o := _) rfl (fun K' hK' => ?_)
              refine step_append_own rfl (.tmp 35) (.tmp 37) 22 rfl (w.heap.size + 3) 9 i9 _ 1 16 Tryd.underlying22 hi9 hz90 hz91 hz92 rfl (by decide) v1 k _ rfl (by first | exact ow1 | exact World.ownsRow.alloc ow1 _ | exact World.ownsRow.alloc (World.ownsRow.alloc ow1 _) _) _ 1 1 [.string s] rfl rfl (one_new (by first | exact cellA _ _ _ | exact cellB _ _ _ _ | exact cellC _ _ _ _)) (by intro u hu; simp only [List.mem_cons, List.not_mem_nil, or_false] at hu; rcases hu with rfl; rfl) (by unfold maxLen; omega) (by omega) (by first | omega | (simp; omega)) ?_
              intro y1 W1 hy1 hg1
              have hH1 := (HH.out.ext (by first | exact Below.refl _ _ | exact (Below.refl _ _).alloc (Nat.le_refl _) _ | exact ((Below.refl _ _).alloc (Nat.le_refl _) _).alloc (by simp) _ | exact (Below.refl _ _).drew | exact ((Below.refl _ _).drew).alloc (Nat.le_refl _) _ | exact (((Below.refl _ _).drew).alloc (Nat.le_refl _) _).alloc (by simp) _)).grown hg1 (fun k hk => (ow1.lt k hk).1)
              have oz2 := World.ownsRow.kept (by first | exact ow2 | exact World.ownsRow.alloc ow2 _ | exact World.ownsRow.alloc (World.ownsRow.alloc ow2 _) _) hg1 (rows_apart ow1 ow2 (by decide))
              have gk1 := keep_new ow1 hg1
              have w10 := block_cell hH1.way 0
              have w11 := block_cell hH1.way 1
              have wx4 := block_cell hH1.box 4
              simp at w10 w11 wx4
              have wa0 := fun o => cell_alloc' w10 o
              have wa1 := fun o => cell_alloc' w11 o
              have wb4 := fun o => cell_alloc' wx4 o
              have Hh1 := Lib.hid hH1
              clear hH1
              have sz1 := hg1.size
              simp at sz1
              clear hg1
              rcases owned_shape hy1 with ⟨_, h0⟩ | ⟨g1, p1, rfl, _⟩
              · exact absurd h0 (by omega)
              refine hK' _ _ ⟨Or.inr ⟨by first | exact m0 | exact ma0 _ | exact mb0 _ _ | exact w10 | exact wa0 _, by first | exact m1 | exact ma1 _ | exact mb1 _ _ | exact w11 | exact wa1 _⟩, ?_⟩
              clear hK'
              try simp only [Act.put, List.setIfInBounds_toArray]
              refine AnyBut.pure (i := 10) (v := ?_) rfl (by kernel_rfl) (by kernel_rfl) (by kernel_rfl) (by kernel_rfl) (fun _ _ _ h => h) (Or.inl ⟨by rfl, ?_⟩) ?_
              rotate_left
              · intro u _; go_simp; first | done | with_reducible rfl
              try simp only [Act.put]
              refine AnyBut.all (rs := [9]) (by kernel_rfl) (by simp) ?_
              intro j hj
              obtain rfl : j = 9 := by simpa using hj
              clear hj
              refine wpOp_step (o := _) rfl (fun K' hK' => ?_)
              refine step_append_own rfl (.tmp 40) (.tmp 42) 23 rfl (w.heap.size + 3) 3 i3 _ 1 8 Tryd.underlying23 hi3 hz30 hz31 hz32 rfl (by decide) v2 k _ rfl (by first | exact oz2 | exact World.ownsRow.alloc oz2 _ | exact World.ownsRow.alloc (World.ownsRow.alloc oz2 _) _) _ 1 1 [.int .i64 0] rfl rfl (one_new (by first | exact cellA _ _ _ | exact cellB _ _ _ _ | exact cellC _ _ _ _ | exact gk1 _ _ (by first | omega | (simp; done)) (cellA _ _ _) | exact gk1 _ _ (by first | omega | (simp; done)) (cellB _ _ _ _) | exact gk1 _ _ (by first | omega | (simp; done)) (cellC _ _ _ _))) (by intro u hu; simp only [List.mem_cons, List.not_mem_nil, or_false] at hu; rcases hu with rfl; rfl) (by unfold maxLen; omega) (by omega) (by first | omega | (simp; omega)) ?_
              intro y2 W2 hy2 hg2
              have hH3 := (Hh1.out.ext (by first | exact Below.refl _ _ | exact (Below.refl _ _).alloc (Nat.le_refl _) _ | exact ((Below.refl _ _).alloc (Nat.le_refl _) _).alloc (by simp) _ | exact (Below.refl _ _).drew | exact ((Below.refl _ _).drew).alloc (Nat.le_refl _) _ | exact (((Below.refl _ _).drew).alloc (Nat.le_refl _) _).alloc (by simp) _)).grown hg2 (fun k hk => (oz2.lt k hk).1)
              have oy1 := World.ownsRow.kept (by first | exact hy1 | exact World.ownsRow.alloc hy1 _ | exact World.ownsRow.alloc (World.ownsRow.alloc hy1 _) _) hg2 (rows_apart oz2 hy1 (by decide))
              rcases owned_shape hy2 with ⟨_, h0⟩ | ⟨g2, p2, rfl, _⟩
              · exact absurd h0 (by omega)
              have e0 := block_cell hH3.way 0
              have e1 := block_cell hH3.way 1
              have f0 := block_free hH3.way 0
              have f1 := block_free hH3.way 1
              simp at e0 e1
              have FIN := Lib.hid (hH3.stored oy1 hy2)
              clear hg2
              refine hK' _ _ ⟨Or.inr ⟨e0, e1⟩, ?_⟩
              clear hK' hH3
              try simp only [Act.put]
              refine AnyBut.all (rs := [11]) (by kernel_rfl) (by simp) ?_
              intro j hj
              obtain rfl : j = 11 := by simpa using hj
              clear hj
              refine wpOp_step (o := _) rfl (fun K' hK' => ?_)
              go_simp
              refine hK' _ _ ⟨Or.inl (by rfl), ?_⟩
              clear hK'
              try simp only [Act.put, List.setIfInBounds_toArray, List.set_cons_zero, List.set_cons_succ]
              refine AnyBut.pure (i := 12) (v := ?_) rfl (by kernel_rfl) (by kernel_rfl) (by kernel_rfl) (by kernel_rfl) (fun _ _ _ h => h) (Or.inl ⟨by rfl, ?_⟩) ?_
              rotate_left
              · intro u _; go_simp; first | done | with_reducible rfl
              try simp only [Act.put, List.setIfInBounds_toArray]
              refine AnyBut.all (rs := [13]) (by kernel_rfl) (by simp) ?_
              intro j hj
              obtain rfl : j = 13 := by simpa using hj
              clear hj
              refine wpOp_step (o := _) rfl (fun K' hK' => ?_)
              go_simp
              refine hK' _ _ ⟨Or.inl (by rfl), ?_⟩
              clear hK'
              try simp only [Act.put, List.setIfInBounds_toArray, List.set_cons_zero, List.set_cons_succ]
              refine AnyBut.over (by kernel_rfl) ?_ _
              try simp only [Act.put, List.setIfInBounds_toArray, List.set_cons_zero, List.set_cons_succ]
              (clear ow1 ow2 ma0 ma1 mb0 mb1 m0 m1 z0 z1 HH e0 e1 f0 f1 w10 w11 wx4 wa0 wa1 wb4; go_wp2_with fail; go_meet; exact ⟨_, _, FIN.out⟩)
          · clear hj
            refine wpOp_step (o := _) rfl (fun K' hK' => ?_)
            go_simp
            refine hK' _ _ ⟨Or.inr ⟨by first | exact m0 | exact ma0 _ | exact mb0 _ _ | exact w10 | exact wa0 _, by first | exact m1 | exact ma1 _ | exact mb1 _ _ | exact w11 | exact wa1 _⟩, ?_⟩
            clear hK'
            try simp only [Act.put, List.setIfInBounds_toArray, List.set_cons_zero, List.set_cons_succ]
            refine AnyBut.all (rs := [3]) (by kernel_rfl) (by simp) ?_
            intro j hj
            obtain rfl : j = 3 := by simpa using hj
            clear hj
            refine wpOp_step (o := _) rfl (fun K' hK' => ?_)
            go_simp
            refine hK' _ _ ⟨Or.inr ⟨by first | exact m0 | exact ma0 _ | exact mb0 _ _ | exact w10 | exact wa0 _, by first | exact m1 | exact ma1 _ | exact mb1 _ _ | exact w11 | exact wa1 _⟩, ?_⟩
            clear hK'
            try simp only [Act.put, List.setIfInBounds_toArray, List.set_cons_zero, List.set_cons_succ]
            refine AnyBut.all (rs := [4]) (by kernel_rfl) (by simp) ?_
            intro j hj
            obtain rfl : j = 4 := by simpa using hj
            clear hj
            refine wpOp_step (o := _) rfl (fun K' hK' => ?_)
            refine step_append_own rfl (.tmp 35) (.tmp 37) 22 rfl (w.heap.size + 3) 9 i9 _ 1 16 Tryd.underlying22 hi9 hz90 hz91 hz92 rfl (by decide) v1 k _ rfl (by first | exact ow1 | exact World.ownsRow.alloc ow1 _ | exact World.ownsRow.alloc (World.ownsRow.alloc ow1 _) _) _ 1 1 [.string s] rfl rfl (one_new (by first | exact cellA _ _ _ | exact cellB _ _ _ _ | exact cellC _ _ _ _)) (by intro u hu; simp only [List.mem_cons, List.not_mem_nil, or_false] at hu; rcases hu with rfl; rfl) (by unfold maxLen; omega) (by omega) (by first | omega | (simp; omega)) ?_
            intro y1 W1 hy1 hg1
            have hH1 := (HH.out.ext (by first | exact Below.refl _ _ | exact (Below.refl _ _).alloc (Nat.le_refl _) _ | exact ((Below.refl _ _).alloc (Nat.le_refl _) _).alloc (by simp) _ | exact (Below.refl _ _).drew | exact ((Below.refl _ _).drew).alloc (Nat.le_refl _) _ | exact (((Below.refl _ _).drew).alloc (Nat.le_refl _) _).alloc (by simp) _)).grown hg1 (fun k hk => (ow1.lt k hk).1)
            have oz2 := World.ownsRow.kept (by first | exact ow2 | exact World.ownsRow.alloc ow2 _ | exact World.ownsRow.alloc (World.ownsRow.alloc ow2 _) _) hg1 (rows_apart ow1 ow2 (by decide))
            have gk1 := keep_new ow1 hg1
            have w10 := block_cell hH1.way 0
            have w11 := block_cell hH1.way 1
            have wx4 := block_cell hH1.box 4
            simp at w10 w11 wx4
            have wa0 := fun o => cell_alloc' w10 o
            have wa1 := fun o => cell_alloc' w11 o
            have wb4 := fun o => cell_alloc' wx4 o
            have Hh1 := Lib.hid hH1
            clear hH1
            have sz1 := hg1.size
            simp at sz1
            clear hg1
            rcases owned_shape hy1 with ⟨_, h0⟩ | ⟨g1, p1, rfl, _⟩
            · exact absurd h0 (by omega)
            refine hK' _ _ ⟨Or.inr ⟨by first | exact m0 | exact ma0 _ | exact mb0 _ _ | exact w10 | exact wa0 _, by first | exact m1 | exact ma1 _ | exact mb1 _ _ | exact w11 | exact wa1 _⟩, ?_⟩
            clear hK'
            try simp only [Act.put, List.setIfInBounds_toArray]
            refine AnyBut.pure (i := 10) (v := ?_) rfl (by kernel_rfl) (by kernel_rfl) (by kernel_rfl) (by kernel_rfl) (fun _ _ _ h => h) (Or.inl ⟨by rfl, ?_⟩) ?_
            rotate_left
            · intro u _; go_simp; first | done | with_reducible rfl
            try simp only [Act.put]
            refine AnyBut.all (rs := [9]) (by kernel_rfl) (by simp) ?_
            intro j hj
            obtain rfl : j = 9 := by simpa using hj
            clear hj
            refine wpOp_step (o := _) rfl (fun K' hK' => ?_)
            refine step_append_own rfl (.tmp 40) (.tmp 42) 23 rfl (w.heap.size + 3) 3 i3 _ 1 8 Tryd.underlying23 hi3 hz30 hz31 hz32 rfl (by decide) v2 k _ rfl (by first | exact oz2 | exact World.ownsRow.alloc oz2 _ | exact World.ownsRow.alloc (World.ownsRow.alloc oz2 _) _) _ 1 1 [.int .i64 0] rfl rfl (one_new (by first | exact cellA _ _ _ | exact cellB _ _ _ _ | exact cellC _ _ _ _ | exact gk1 _ _ (by first | omega | (simp; done)) (cellA _ _ _) | exact gk1 _ _ (by first | omega | (simp; done)) (cellB _ _ _ _) | exact gk1 _ _ (by first | omega | (simp; done)) (cellC _ _ _ _))) (by intro u hu; simp only [List.mem_cons, List.not_mem_nil, or_false] at hu; rcases hu with rfl; rfl) (by unfold maxLen; omega) (by omega) (by first | omega | (simp; omega)) ?_
            intro y2 W2 hy2 hg2
            have hH3 := (Hh1.out.ext (by first | exact Below.refl _ _ | exact (Below.refl _ _).alloc (Nat.le_refl _) _ | exact ((Below.refl _ _).alloc (Nat.le_refl _) _).alloc (by simp) _ | exact (Below.refl _ _).drew | exact ((Below.refl _ _).drew).alloc (Nat.le_refl _) _ | exact (((Below.refl _ _).drew).alloc (Nat.le_refl _) _).alloc (by simp) _)).grown hg2 (fun k hk => (oz2.lt k hk).1)
            have oy1 := World.ownsRow.kept (by first | exact hy1 | exact World.ownsRow.alloc hy1 _ | exact World.ownsRow.alloc (World.ownsRow.alloc hy1 _) _) hg2 (rows_apart oz2 hy1 (by decide))
            rcases owned_shape hy2 with ⟨_, h0⟩ | ⟨g2, p2, rfl, _⟩
            · exact absurd h0 (by omega)
            have e0 := block_cell hH3.way 0
            have e1 := block_cell hH3.way 1
            have f0 := block_free hH3.way 0
            have f1 := block_free hH3.way 1
            simp at e0 e1
            have FIN := Lib.hid (hH3.stored oy1 hy2)
            clear hg2
            refine hK' _ _ ⟨Or.inr ⟨e0, e1⟩, ?_⟩
            clear hK' hH3
            try simp only [Act.put]
            refine AnyBut.all (rs := [11]) (by kernel_rfl) (by simp) ?_
            intro j hj
            obtain rfl : j = 11 := by simpa using hj
            clear hj
            refine wpOp_step (o := _) rfl (fun K' hK' => ?_)
            go_simp
            refine hK' _ _ ⟨Or.inl (by rfl), ?_⟩
            clear hK'
            try simp only [Act.put, List.setIfInBounds_toArray, List.set_cons_zero, List.set_cons_succ]
            refine AnyBut.pure (i := 12) (v := ?_) rfl (by kernel_rfl) (by kernel_rfl) (by kernel_rfl) (by kernel_rfl) (fun _ _ _ h => h) (Or.inl ⟨by rfl, ?_⟩) ?_
            rotate_left
            · intro u _; go_simp; first | done | with_reducible rfl
            try simp only [Act.put, List.setIfInBounds_toArray]
            refine AnyBut.all (rs := [13]) (by kernel_rfl) (by simp) ?_
            intro j hj
            obtain rfl : j = 13 := by simpa using hj
            clear hj
            refine wpOp_step (o := _) rfl (fun K' hK' => ?_)
            go_simp
            refine hK' _ _ ⟨Or.inl (by rfl), ?_⟩
            clear hK'
            try simp only [Act.put, List.setIfInBounds_toArray, List.set_cons_zero, List.set_cons_succ]
            refine AnyBut.over (by kernel_rfl) ?_ _
            try simp only [Act.put, List.setIfInBounds_toArray, List.set_cons_zero, List.set_cons_succ]
            (clear ow1 ow2 ma0 ma1 mb0 mb1 m0 m1 z0 z1 HH e0 e1 f0 f1 w10 w11 wx4 wa0 wa1 wb4; go_wp2_with fail; go_meet; exact ⟨_, _, FIN.out⟩)

    · have hk' : k = pl.length := by omega
      have ht1 : strs (pl.take k) = strs pl := by rw [hk', List.take_length]
      have ht2 : ints (pl.take k) = ints pl := by rw [hk', List.take_length]
      rw [ht1, ht2, hk'] at hM
      have hlt : ¬ k < pl.length := hkn
      have HK := Lib.hid hk'
      clear ht1 ht2 hk' hkn hw hz hz0
      have m2 := block_cell hM.way 2
      have m3 := block_cell hM.way 3
      have m4 := block_cell hM.way 4
      have x4 := block_cell hM.box 4
      simp at m2 m3 m4 x4
      by_cases he : en % 3 = 0
      · have he1 : (en % 3 == 0) = true := by simp [he]
        have he2 : decide (en % 3 = 0) = true := by simp [he]
        have HE := Lib.hid he
        clear he
        have HM := Lib.hid hM
        clear hM
        go_upto_if 49 with (fail)
        go_cut [] (fun wc => ∃ y1 y2, Made w.heap.size #[.slice a1 pl.length c1, .slice a2 n2 c2, .int .u8 en, .int .i64 code, .int .i64 at_] (en % 3) code at_ w wc y1 y2 (pl.length + 1) (strs pl ++ [.string endS]) (ints pl ++ [.int .i64 at_]))
        case rest =>
          obtain ⟨y1, y2, hM2⟩ := hcut
          clear m0 m1 m2 m3 m4 x0 x1 x4 HM he1 he2 s3
          have hs1 : stepsOf pl (en % 3) at_ = pl ++ [(endS, at_)] := by unfold stepsOf; rw [if_pos HE.out]
          have hs2 : strs (pl ++ [(endS, at_)]) = strs pl ++ [.string endS] := by simp [strs]
          have hs3 : ints (pl ++ [(endS, at_)]) = ints pl ++ [.int .i64 at_] := by simp [ints]
          have FIN : wc.ownsRow (w.heap.size + 3) 9 1 y1 (stepsOf pl (en % 3) at_).length (strs (stepsOf pl (en % 3) at_)) ∧ wc.ownsRow (w.heap.size + 3) 3 1 y2 (stepsOf pl (en % 3) at_).length (ints (stepsOf pl (en % 3) at_)) := by
            rw [hs1, hs2, hs3, List.length_append]; exact ⟨hM2.own1, hM2.own2⟩
          obtain ⟨q1, q2, q3, rfl⟩ := owned_slice hM2.own1
          obtain ⟨q4, q5, q6, rfl⟩ := owned_slice hM2.own2
          have HF := Lib.hid FIN
          clear hs1 hs2 hs3 FIN
          have hMh := hM2.half
          clear hM2
          have u0 := block_cell hMh.way 0
          have u1 := block_cell hMh.way 1
          have u2 := block_cell hMh.way 2
          have u3 := block_cell hMh.way 3
          have u4' := block_cell hMh.way 4
          have r0 := block_cell hMh.res 0
          have r1 := block_cell hMh.res 1
          have r2 := block_cell hMh.res 2
          have r3 := block_cell hMh.res 3
          have r4 := block_cell hMh.res 4
          have f0 := block_free hMh.res 0
          have f1 := block_free hMh.res 1
          have f2 := block_free hMh.res 2
          have f3 := block_free hMh.res 3
          have f4 := block_free hMh.res 4
          have S1 := block_set hMh.res 0 (.slice q1 q2 q3)
          have S2 := block_set S1 1 (.slice q4 q5 q6)
          have S3 := block_set S2 2 (.int .i64 (en % 3))
          have S4 := block_set S3 3 (.int .i64 code)
          have S5 := block_set S4 4 (.int .i64 at_)
          have g0 := block_cell S5 0
          have g1 := block_cell S5 1
          have g2 := block_cell S5 2
          have g3 := block_cell S5 3
          have g4 := block_cell S5 4
          have HH := Lib.hid hMh
          clear hMh S1 S2 S3 S4 S5
          simp at u0 u1 u2 u3 u4' r0 r1 r2 r3 r4 g0 g1 g2 g3 g4
          have HG := Lib.hid (And.intro g0 (And.intro g1 (And.intro g2 (And.intro g3 g4))))
          clear g0 g1 g2 g3 g4
          go_wp2
          obtain ⟨g0, g1, g2, g3, g4⟩ := HG.out
          exact bodyPost_ret (v := .agg #[.slice q1 q2 q3, .slice q4 q5 q6, .int .i64 (en % 3), .int .i64 code, .int .i64 at_]) (by simp [results, Tryd.results9, go_sem, g0, g1, g2, g3, g4]) rfl
            ⟨_, _, rfl, owned_mono (own_set5 HF.out.1) (by omega), owned_mono (own_set5 HF.out.2) (by omega), below_set5 HH.out.below⟩
        case first =>
          have ow1 : wr.drew.ownsRow _ _ _ _ _ _ := HM.out.own1.drew
          have ow2 : wr.drew.ownsRow _ _ _ _ _ _ := HM.out.own2.drew
          have HH := Lib.hid (HM.out.half)
          have ma0 := fun o => cell_alloc' m0 o
          have ma1 := fun o => cell_alloc' m1 o
          have mb0 := fun o p => cell_alloc' (cell_alloc' m0 o) p
          have mb1 := fun o p => cell_alloc' (cell_alloc' m1 o) p
          have z0 := block_free HM.out.way 0
          have z1 := block_free HM.out.way 1
          have xa4 := fun o => cell_alloc' x4 o
          have xb4 := fun o p => cell_alloc' (cell_alloc' x4 o) p
          go_wp2
          clear x0 x1 m2 m3 m4 he1 he2 hlt
          refine wp_region_but (fun u => u.cell? ⟨w.heap.size + 1 + 1, 0, none⟩ = some v1 ∧ u.cell? ⟨w.heap.size + 1 + 1, 1, none⟩ = some v2) (fun i => [0, 4, 6, 10, 11, 12, 13].contains i) (by kernel_rfl) ?_
          refine AnyBut.pure (i := 0) (v := ?_) rfl (by kernel_rfl) (by kernel_rfl) (by kernel_rfl) (by kernel_rfl) (fun _ _ _ h => h) (Or.inl ⟨by rfl, ?_⟩) ?_
          rotate_left
          · intro u _; go_simp; first | done | with_reducible rfl
          try simp only [Act.put, List.setIfInBounds_toArray]
          refine AnyBut.pure (i := 4) (v := ?_) rfl (by kernel_rfl) (by kernel_rfl) (by kernel_rfl) (by kernel_rfl) (fun _ _ _ h => h) (Or.inl ⟨by rfl, ?_⟩) ?_
          rotate_left
          · intro u _; go_simp; first | done | with_reducible rfl
          try simp only [Act.put]
          refine AnyBut.pure (i := 6) (v := ?_) rfl (by kernel_rfl) (by kernel_rfl) (by kernel_rfl) (by kernel_rfl) (fun _ _ _ h => h) (Or.inl ⟨by rfl, ?_⟩) ?_
          rotate_left
          · intro u _; go_simp; first | done | with_reducible rfl
          try simp only [Act.put]
          refine AnyBut.take (i := 1) (v := ?_) rfl (by kernel_rfl) (by kernel_rfl) (by kernel_rfl) (by kernel_rfl) (fun _ _ _ h => h) (Or.inl ⟨by rfl, ?_⟩) ⟨by first | exact m0 | exact ma0 _ | exact mb0 _ _ | exact w10 | exact wa0 _, by first | exact m1 | exact ma1 _ | exact mb1 _ _ | exact w11 | exact wa1 _⟩ ?_
          rotate_left
          · rintro u ⟨hu0, hu1⟩; go_simp; first | done | with_reducible rfl
          try simp only [Act.put]
          refine AnyBut.take (i := 5) (v := ?_) rfl (by kernel_rfl) (by kernel_rfl) (by kernel_rfl) (by kernel_rfl) (fun _ _ _ h => h) (Or.inl ⟨by rfl, ?_⟩) ⟨by first | exact m0 | exact ma0 _ | exact mb0 _ _ | exact w10 | exact wa0 _, by first | exact m1 | exact ma1 _ | exact mb1 _ _ | exact w11 | exact wa1 _⟩ ?_
          rotate_left
          · rintro u ⟨hu0, hu1⟩; go_simp; first | done | with_reducible rfl
          try simp only [Act.put]
          refine AnyBut.all (rs := [2, 7]) (by kernel_rfl) (by simp) ?_
          intro j hj
          have hj' : j = 2 ∨ j = 7 := by simpa using hj
          rcases hj' with rfl | rfl
          · clear hj
            refine wpOp_step (o := _) rfl (fun K' hK' => ?_)
            go_simp
            refine hK' _ _ ⟨Or.inr ⟨by first | exact m0 | exact ma0 _ | exact mb0 _ _ | exact w10 | exact wa0 _, by first | exact m1 | exact ma1 _ | exact mb1 _ _ | exact w11 | exact wa1 _⟩, ?_⟩
            clear hK'
            try simp only [Act.put, List.setIfInBounds_toArray, List.set_cons_zero, List.set_cons_succ]
            refine AnyBut.all (rs := [3, 7]) (by kernel_rfl) (by simp) ?_
            intro j hj
            have hj' : j = 3 ∨ j = 7 := by simpa using hj
            rcases hj' with rfl | rfl
            · clear hj
              refine wpOp_step (o := _) rfl (fun K' hK' => ?_)
              refine step_append_own rfl (.tmp 51) (.tmp 52) 22 rfl (w.heap.size + 3) 9 i9 _ 1 16 Tryd.underlying22 hi9 hz90 hz91 hz92 rfl (by decide) v1 pl.length _ rfl (by first | exact ow1 | exact World.ownsRow.alloc ow1 _ | exact World.ownsRow.alloc (World.ownsRow.alloc ow1 _) _) _ 1 1 [.string ⟨#[101, 110, 100]⟩] rfl rfl (one_new (by first | exact cellA _ _ _ | exact cellB _ _ _ _ | exact cellC _ _ _ _)) (by intro u hu; simp only [List.mem_cons, List.not_mem_nil, or_false] at hu; rcases hu with rfl; rfl) (by unfold maxLen; omega) (by omega) (by first | omega | (simp; omega)) ?_
              intro y1 W1 hy1 hg1
              have hH1 := (HH.out.ext (by first | exact Below.refl _ _ | exact (Below.refl _ _).alloc (Nat.le_refl _) _ | exact ((Below.refl _ _).alloc (Nat.le_refl _) _).alloc (by simp) _ | exact (Below.refl _ _).drew | exact ((Below.refl _ _).drew).alloc (Nat.le_refl _) _ | exact (((Below.refl _ _).drew).alloc (Nat.le_refl _) _).alloc (by simp) _)).grown hg1 (fun k hk => (ow1.lt k hk).1)
              have oz2 := World.ownsRow.kept (by first | exact ow2 | exact World.ownsRow.alloc ow2 _ | exact World.ownsRow.alloc (World.ownsRow.alloc ow2 _) _) hg1 (rows_apart ow1 ow2 (by decide))
              have gk1 := keep_new ow1 hg1
              have w10 := block_cell hH1.way 0
              have w11 := block_cell hH1.way 1
              have wx4 := block_cell hH1.box 4
              simp at w10 w11 wx4
              have wa0 := fun o => cell_alloc' w10 o
              have wa1 := fun o => cell_alloc' w11 o
              have wb4 := fun o => cell_alloc' wx4 o
              have Hh1 := Lib.hid hH1
              clear hH1
              have sz1 := hg1.size
              simp at sz1
              clear hg1
              rcases owned_shape hy1 with ⟨_, h0⟩ | ⟨g1, p1, rfl, _⟩
              · exact absurd h0 (by omega)
              refine hK' _ _ ⟨Or.inr ⟨by first | exact m0 | exact ma0 _ | exact mb0 _ _ | exact w10 | exact wa0 _, by first | exact m1 | exact ma1 _ | exact mb1 _ _ | exact w11 | exact wa1 _⟩, ?_⟩
              clear hK'
              try simp only [Act.put, List.setIfInBounds_toArray]
              refine AnyBut.pure (i := 10) (v := ?_) rfl (by kernel_rfl) (by kernel_rfl) (by kernel_rfl) (by kernel_rfl) (fun _ _ _ h => h) (Or.inl ⟨by rfl, ?_⟩) ?_
              rotate_left
              · intro u _; go_simp; first | done | with_reducible rfl
              try simp only [Act.put]
              refine AnyBut.all (rs := [7]) (by kernel_rfl) (by simp) ?_
              intro j hj
              obtain rfl : j = 7 := by simpa using hj
              clear hj
              refine wpOp_step (o := _) rfl (fun K' hK' => ?_)
              go_simp
              refine hK' _ _ ⟨Or.inr ⟨by first | exact m0 | exact ma0 _ | exact mb0 _ _ | exact w10 | exact wa0 _, by first | exact m1 | exact ma1 _ | exact mb1 _ _ | exact w11 | exact wa1 _⟩, ?_⟩
              clear hK'
              try simp only [Act.put, List.setIfInBounds_toArray, List.set_cons_zero, List.set_cons_succ]
              refine AnyBut.all (rs := [8]) (by kernel_rfl) (by simp) ?_
              intro j hj
              obtain rfl : j = 8 := by simpa using hj
              clear hj
              refine wpOp_step (o := _) rfl (fun K' hK' => ?_)
              go_simp
              refine hK' _ _ ⟨Or.inr ⟨by first | exact m0 | exact ma0 _ | exact mb0 _ _ | exact w10 | exact wa0 _, by first | exact m1 | exact ma1 _ | exact mb1 _ _ | exact w11 | exact wa1 _⟩, ?_⟩
              clear hK'
              try simp only [Act.put, List.setIfInBounds_toArray, List.set_cons_zero, List.set_cons_succ]
              refine AnyBut.all (rs := [9]) (by kernel_rfl) (by simp) ?_
              intro j hj
              obtain rfl : j = 9 := by simpa using hj
              clear hj
              refine wpOp_step (o := _) rfl (fun K' hK' => ?_)
              refine step_append_own rfl (.tmp 55) (.tmp 58) 23 rfl (w.heap.size + 3) 3 i3 _ 1 8 Tryd.underlying23 hi3 hz30 hz31 hz32 rfl (by decide) v2 pl.length _ rfl (by first | exact oz2 | exact World.ownsRow.alloc oz2 _ | exact World.ownsRow.alloc (World.ownsRow.alloc oz2 _) _) _ 1 1 [.int .i64 at_] rfl rfl (one_new (by first | exact cellA _ _ _ | exact cellB _ _ _ _ | exact cellC _ _ _ _ | exact gk1 _ _ (by first | omega | (simp; done)) (cellA _ _ _) | exact gk1 _ _ (by first | omega | (simp; done)) (cellB _ _ _ _) | exact gk1 _ _ (by first | omega | (simp; done)) (cellC _ _ _ _))) (by intro u hu; simp only [List.mem_cons, List.not_mem_nil, or_false] at hu; rcases hu with rfl; rfl) (by unfold maxLen; omega) (by omega) (by first | omega | (simp; omega)) ?_
              intro y2 W2 hy2 hg2
              have hH3 := (Hh1.out.ext (by first | exact Below.refl _ _ | exact (Below.refl _ _).alloc (Nat.le_refl _) _ | exact ((Below.refl _ _).alloc (Nat.le_refl _) _).alloc (by simp) _ | exact (Below.refl _ _).drew | exact ((Below.refl _ _).drew).alloc (Nat.le_refl _) _ | exact (((Below.refl _ _).drew).alloc (Nat.le_refl _) _).alloc (by simp) _)).grown hg2 (fun k hk => (oz2.lt k hk).1)
              have oy1 := World.ownsRow.kept (by first | exact hy1 | exact World.ownsRow.alloc hy1 _ | exact World.ownsRow.alloc (World.ownsRow.alloc hy1 _) _) hg2 (rows_apart oz2 hy1 (by decide))
              rcases owned_shape hy2 with ⟨_, h0⟩ | ⟨g2, p2, rfl, _⟩
              · exact absurd h0 (by omega)
              have e0 := block_cell hH3.way 0
              have e1 := block_cell hH3.way 1
              have f0 := block_free hH3.way 0
              have f1 := block_free hH3.way 1
              simp at e0 e1
              have FIN := Lib.hid (hH3.stored oy1 hy2)
              clear hg2
              refine hK' _ _ ⟨Or.inr ⟨e0, e1⟩, ?_⟩
              clear hK' hH3
              try simp only [Act.put, List.setIfInBounds_toArray]
              refine AnyBut.all (rs := [11]) (by kernel_rfl) (by simp) ?_
              intro j hj
              obtain rfl : j = 11 := by simpa using hj
              clear hj
              refine wpOp_step (o := _) rfl (fun K' hK' => ?_)
              go_simp
              refine hK' _ _ ⟨Or.inl (by rfl), ?_⟩
              clear hK'
              try simp only [Act.put, List.setIfInBounds_toArray, List.set_cons_zero, List.set_cons_succ]
              refine AnyBut.pure (i := 12) (v := ?_) rfl (by kernel_rfl) (by kernel_rfl) (by kernel_rfl) (by kernel_rfl) (fun _ _ _ h => h) (Or.inl ⟨by rfl, ?_⟩) ?_
              rotate_left
              · intro u _; go_simp; first | done | with_reducible rfl
              try simp only [Act.put, List.setIfInBounds_toArray]
              refine AnyBut.all (rs := [13]) (by kernel_rfl) (by simp) ?_
              intro j hj
              obtain rfl : j = 13 := by simpa using hj
              clear hj
              refine wpOp_step (o := _) rfl (fun K' hK' => ?_)
              go_simp
              refine hK' _ _ ⟨Or.inl (by rfl), ?_⟩
              clear hK'
              try simp only [Act.put, List.setIfInBounds_toArray, List.set_cons_zero, List.set_cons_succ]
              refine AnyBut.over (by kernel_rfl) ?_ _
              try simp only [Act.put, List.setIfInBounds_toArray, List.set_cons_zero, List.set_cons_succ]
              (clear ow1 ow2 ma0 ma1 mb0 mb1 m0 m1 z0 z1 HH e0 e1 f0 f1 w10 w11 wx4 wa0 wa1 wb4; go_wp2_with fail; go_meet; exact ⟨_, _, FIN.out⟩)
            · clear hj
              refine wpOp_step (o := _) rfl (fun K' hK' => ?_)
              go_simp
              refine hK' _ _ ⟨Or.inr ⟨by first | exact m0 | exact ma0 _ | exact mb0 _ _ | exact w10 | exact wa0 _, by first | exact m1 | exact ma1 _ | exact mb1 _ _ | exact w11 | exact wa1 _⟩, ?_⟩
              clear hK'
              try simp only [Act.put, List.setIfInBounds_toArray, List.set_cons_zero, List.set_cons_succ]
              refine AnyBut.all (rs := [3, 8]) (by kernel_rfl) (by simp) ?_
              intro j hj
              have hj' : j = 3 ∨ j = 8 := by simpa using hj
              rcases hj' with rfl | rfl
              · clear hj
                refine wpOp_step (o := _) rfl (fun K' hK' => ?_)
                refine step_append_own rfl (.tmp 51) (.tmp 52) 22 rfl (w.heap.size + 3) 9 i9 _ 1 16 Tryd.underlying22 hi9 hz90 hz91 hz92 rfl (by decide) v1 pl.length _ rfl (by first | exact ow1 | exact World.ownsRow.alloc ow1 _ | exact World.ownsRow.alloc (World.ownsRow.alloc ow1 _) _) _ 1 1 [.string ⟨#[101, 110, 100]⟩] rfl rfl (one_new (by first | exact cellA _ _ _ | exact cellB _ _ _ _ | exact cellC _ _ _ _)) (by intro u hu; simp only [List.mem_cons, List.not_mem_nil, or_false] at hu; rcases hu with rfl; rfl) (by unfold maxLen; omega) (by omega) (by first | omega | (simp; omega)) ?_
                intro y1 W1 hy1 hg1
                have hH1 := (HH.out.ext (by first | exact Below.refl _ _ | exact (Below.refl _ _).alloc (Nat.le_refl _) _ | exact ((Below.refl _ _).alloc (Nat.le_refl _) _).alloc (by simp) _ | exact (Below.refl _ _).drew | exact ((Below.refl _ _).drew).alloc (Nat.le_refl _) _ | exact (((Below.refl _ _).drew).alloc (Nat.le_refl _) _).alloc (by simp) _)).grown hg1 (fun k hk => (ow1.lt k hk).1)
                have oz2 := World.ownsRow.kept (by first | exact ow2 | exact World.ownsRow.alloc ow2 _ | exact World.ownsRow.alloc (World.ownsRow.alloc ow2 _) _) hg1 (rows_apart ow1 ow2 (by decide))
                have gk1 := keep_new ow1 hg1
                have w10 := block_cell hH1.way 0
                have w11 := block_cell hH1.way 1
                have wx4 := block_cell hH1.box 4
                simp at w10 w11 wx4
                have wa0 := fun o => cell_alloc' w10 o
                have wa1 := fun o => cell_alloc' w11 o
                have wb4 := fun o => cell_alloc' wx4 o
                have Hh1 := Lib.hid hH1
                clear hH1
                have sz1 := hg1.size
                simp at sz1
                clear hg1
                rcases owned_shape hy1 with ⟨_, h0⟩ | ⟨g1, p1, rfl, _⟩
                · exact absurd h0 (by omega)
                refine hK' _ _ ⟨Or.inr ⟨by first | exact m0 | exact ma0 _ | exact mb0 _ _ | exact w10 | exact wa0 _, by first | exact m1 | exact ma1 _ | exact mb1 _ _ | exact w11 | exact wa1 _⟩, ?_⟩
                clear hK'
                try simp only [Act.put, List.setIfInBounds_toArray]
                refine AnyBut.pure (i := 10) (v := ?_) rfl (by kernel_rfl) (by kernel_rfl) (by kernel_rfl) (by kernel_rfl) (fun _ _ _ h => h) (Or.inl ⟨by rfl, ?_⟩) ?_
                rotate_left
                · intro u _; go_simp; first | done | with_reducible rfl
                try simp only [Act.put]
                refine AnyBut.all (rs := [8]) (by kernel_rfl) (by simp) ?_
                intro j hj
                obtain rfl : j = 8 := by simpa using hj
                clear hj
                refine wpOp_step (o := _) rfl (fun K' hK' => ?_)
                go_simp
                refine hK' _ _ ⟨Or.inr ⟨by first | exact m0 | exact ma0 _ | exact mb0 _ _ | exact w10 | exact wa0 _, by first | exact m1 | exact ma1 _ | exact mb1 _ _ | exact w11 | exact wa1 _⟩, ?_⟩
                clear hK'
                try simp only [Act.put, List.setIfInBounds_toArray, List.set_cons_zero, List.set_cons_succ]
                refine AnyBut.all (rs := [9]) (by kernel_rfl) (by simp) ?_
                intro j hj
                obtain rfl : j = 9 := by simpa using hj
                clear hj
                refine wpOp_step (o := _) rfl (fun K' hK' => ?_)
                refine step_append_own rfl (.tmp 55) (.tmp 58) 23 rfl (w.heap.size + 3) 3 i3 _ 1 8 Tryd.underlying23 hi3 hz30 hz31 hz32 rfl (by decide) v2 pl.length _ rfl (by first | exact oz2 | exact World.ownsRow.alloc oz2 _ | exact World.ownsRow.alloc (World.ownsRow.alloc oz2 _) _) _ 1 1 [.int .i64 at_] rfl rfl (one_new (by first | exact cellA _ _ _ | exact cellB _ _ _ _ | exact cellC _ _ _ _ | exact gk1 _ _ (by first | omega | (simp; done)) (cellA _ _ _) | exact gk1 _ _ (by first | omega | (simp; done)) (cellB _ _ _ _) | exact gk1 _ _ (by first | omega | (simp; done)) (cellC _ _ _ _))) (by intro u hu; simp only [List.mem_cons, List.not_mem_nil, or_false] at hu; rcases hu with rfl; rfl) (by unfold maxLen; omega) (by omega) (by first | omega | (simp; omega)) ?_
                intro y2 W2 hy2 hg2
                have hH3 := (Hh1.out.ext (by first | exact Below.refl _ _ | exact (Below.refl _ _).alloc (Nat.le_refl _) _ | exact ((Below.refl _ _).alloc (Nat.le_refl _) _).alloc (by simp) _ | exact (Below.refl _ _).drew | exact ((Below.refl _ _).drew).alloc (Nat.le_refl _) _ | exact (((Below.refl _ _).drew).alloc (Nat.le_refl _) _).alloc (by simp) _)).grown hg2 (fun k hk => (oz2.lt k hk).1)
                have oy1 := World.ownsRow.kept (by first | exact hy1 | exact World.ownsRow.alloc hy1 _ | exact World.ownsRow.alloc (World.ownsRow.alloc hy1 _) _) hg2 (rows_apart oz2 hy1 (by decide))
                rcases owned_shape hy2 with ⟨_, h0⟩ | ⟨g2, p2, rfl, _⟩
                · exact absurd h0 (by omega)
                have e0 := block_cell hH3.way 0
                have e1 := block_cell hH3.way 1
                have f0 := block_free hH3.way 0
                have f1 := block_free hH3.way 1
                simp at e0 e1
                have FIN := Lib.hid (hH3.stored oy1 hy2)
                clear hg2
                refine hK' _ _ ⟨Or.inr ⟨e0, e1⟩, ?_⟩
                clear hK' hH3
                try simp only [Act.put, List.setIfInBounds_toArray]
                refine AnyBut.all (rs := [11]) (by kernel_rfl) (by simp) ?_
                intro j hj
                obtain rfl : j = 11 := by simpa using hj
                clear hj
                refine wpOp_step (o := _) rfl (fun K' hK' => ?_)
                go_simp
                refine hK' _ _ ⟨Or.inl (by rfl), ?_⟩
                clear hK'
                try simp only [Act.put, List.setIfInBounds_toArray, List.set_cons_zero, List.set_cons_succ]
                refine AnyBut.pure (i := 12) (v := ?_) rfl (by kernel_rfl) (by kernel_rfl) (by kernel_rfl) (by kernel_rfl) (fun _ _ _ h => h) (Or.inl ⟨by rfl, ?_⟩) ?_
                rotate_left
                · intro u _; go_simp; first | done | with_reducible rfl
                try simp only [Act.put, List.setIfInBounds_toArray]
                refine AnyBut.all (rs := [13]) (by kernel_rfl) (by simp) ?_
                intro j hj
                obtain rfl : j = 13 := by simpa using hj
                clear hj
                refine wpOp_step (o := _) rfl (fun K' hK' => ?_)
                go_simp
                refine hK' _ _ ⟨Or.inl (by rfl), ?_⟩
                clear hK'
                try simp only [Act.put, List.setIfInBounds_toArray, List.set_cons_zero, List.set_cons_succ]
                refine AnyBut.over (by kernel_rfl) ?_ _
                try simp only [Act.put, List.setIfInBounds_toArray, List.set_cons_zero, List.set_cons_succ]
                (clear ow1 ow2 ma0 ma1 mb0 mb1 m0 m1 z0 z1 HH e0 e1 f0 f1 w10 w11 wx4 wa0 wa1 wb4; go_wp2_with fail; go_meet; exact ⟨_, _, FIN.out⟩)
              · clear hj
                refine wpOp_step (o := _) rfl (fun K' hK' => ?_)
                go_simp
                refine hK' _ _ ⟨Or.inr ⟨by first | exact m0 | exact ma0 _ | exact mb0 _ _ | exact w10 | exact wa0 _, by first | exact m1 | exact ma1 _ | exact mb1 _ _ | exact w11 | exact wa1 _⟩, ?_⟩
                clear hK'
                try simp only [Act.put, List.setIfInBounds_toArray, List.set_cons_zero, List.set_cons_succ]
                refine AnyBut.all (rs := [3]) (by kernel_rfl) (by simp) ?_
                intro j hj
                obtain rfl : j = 3 := by simpa using hj
                clear hj
                refine wpOp_step (o := _) rfl (fun K' hK' => ?_)
                refine step_append_own rfl (.tmp 51) (.tmp 52) 22 rfl (w.heap.size + 3) 9 i9 _ 1 16 Tryd.underlying22 hi9 hz90 hz91 hz92 rfl (by decide) v1 pl.length _ rfl (by first | exact ow1 | exact World.ownsRow.alloc ow1 _ | exact World.ownsRow.alloc (World.ownsRow.alloc ow1 _) _) _ 1 1 [.string ⟨#[101, 110, 100]⟩] rfl rfl (one_new (by first | exact cellA _ _ _ | exact cellB _ _ _ _ | exact cellC _ _ _ _)) (by intro u hu; simp only [List.mem_cons, List.not_mem_nil, or_false] at hu; rcases hu with rfl; rfl) (by unfold maxLen; omega) (by omega) (by first | omega | (simp; omega)) ?_
                intro y1 W1 hy1 hg1
                have hH1 := (HH.out.ext (by first | exact Below.refl _ _ | exact (Below.refl _ _).alloc (Nat.le_refl _) _ | exact ((Below.refl _ _).alloc (Nat.le_refl _) _).alloc (by simp) _ | exact (Below.refl _ _).drew | exact ((Below.refl _ _).drew).alloc (Nat.le_refl _) _ | exact (((Below.refl _ _).drew).alloc (Nat.le_refl _) _).alloc (by simp) _)).grown hg1 (fun k hk => (ow1.lt k hk).1)
                have oz2 := World.ownsRow.kept (by first | exact ow2 | exact World.ownsRow.alloc ow2 _ | exact World.ownsRow.alloc (World.ownsRow.alloc ow2 _) _) hg1 (rows_apart ow1 ow2 (by decide))
                have gk1 := keep_new ow1 hg1
                have w10 := block_cell hH1.way 0
                have w11 := block_cell hH1.way 1
                have wx4 := block_cell hH1.box 4
                simp at w10 w11 wx4
                have wa0 := fun o => cell_alloc' w10 o
                have wa1 := fun o => cell_alloc' w11 o
                have wb4 := fun o => cell_alloc' wx4 o
                have Hh1 := Lib.hid hH1
                clear hH1
                have sz1 := hg1.size
                simp at sz1
                clear hg1
                rcases owned_shape hy1 with ⟨_, h0⟩ | ⟨g1, p1, rfl, _⟩
                · exact absurd h0 (by omega)
                refine hK' _ _ ⟨Or.inr ⟨by first | exact m0 | exact ma0 _ | exact mb0 _ _ | exact w10 | exact wa0 _, by first | exact m1 | exact ma1 _ | exact mb1 _ _ | exact w11 | exact wa1 _⟩, ?_⟩
                clear hK'
                try simp only [Act.put, List.setIfInBounds_toArray]
                refine AnyBut.pure (i := 10) (v := ?_) rfl (by kernel_rfl) (by kernel_rfl) (by kernel_rfl) (by kernel_rfl) (fun _ _ _ h => h) (Or.inl ⟨by rfl, ?_⟩) ?_
                rotate_left
                · intro u _; go_simp; first | done | with_reducible rfl
                try simp only [Act.put]
                refine AnyBut.all (rs := [9]) (by kernel_rfl) (by simp) ?_
                intro j hj
                obtain rfl : j = 9 := by simpa using hj
                clear hj
                refine wpOp_step (o := _) rfl (fun K' hK' => ?_)
                refine step_append_own rfl (.tmp 55) (.tmp 58) 23 rfl (w.heap.size + 3) 3 i3 _ 1 8 Tryd.underlying23 hi3 hz30 hz31 hz32 rfl (by decide) v2 pl.length _ rfl (by first | exact oz2 | exact World.ownsRow.alloc oz2 _ | exact World.ownsRow.alloc (World.ownsRow.alloc oz2 _) _) _ 1 1 [.int .i64 at_] rfl rfl (one_new (by first | exact cellA _ _ _ | exact cellB _ _ _ _ | exact cellC _ _ _ _ | exact gk1 _ _ (by first | omega | (simp; done)) (cellA _ _ _) | exact gk1 _ _ (by first | omega | (simp; done)) (cellB _ _ _ _) | exact gk1 _ _ (by first | omega | (simp; done)) (cellC _ _ _ _))) (by intro u hu; simp only [List.mem_cons, List.not_mem_nil, or_false] at hu; rcases hu with rfl; rfl) (by unfold maxLen; omega) (by omega) (by first | omega | (simp; omega)) ?_
                intro y2 W2 hy2 hg2
                have hH3 := (Hh1.out.ext (by first | exact Below.refl _ _ | exact (Below.refl _ _).alloc (Nat.le_refl _) _ | exact ((Below.refl _ _).alloc (Nat.le_refl _) _).alloc (by simp) _ | exact (Below.refl _ _).drew | exact ((Below.refl _ _).drew).alloc (Nat.le_refl _) _ | exact (((Below.refl _ _).drew).alloc (Nat.le_refl _) _).alloc (by simp) _)).grown hg2 (fun k hk => (oz2.lt k hk).1)
                have oy1 := World.ownsRow.kept (by first | exact hy1 | exact World.ownsRow.alloc hy1 _ | exact World.ownsRow.alloc (World.ownsRow.alloc hy1 _) _) hg2 (rows_apart oz2 hy1 (by decide))
                rcases owned_shape hy2 with ⟨_, h0⟩ | ⟨g2, p2, rfl, _⟩
                · exact absurd h0 (by omega)
                have e0 := block_cell hH3.way 0
                have e1 := block_cell hH3.way 1
                have f0 := block_free hH3.way 0
                have f1 := block_free hH3.way 1
                simp at e0 e1
                have FIN := Lib.hid (hH3.stored oy1 hy2)
                clear hg2
                refine hK' _ _ ⟨Or.inr ⟨e0, e1⟩, ?_⟩
                clear hK' hH3
                try simp only [Act.put]
                refine AnyBut.all (rs := [11]) (by kernel_rfl) (by simp) ?_
                intro j hj
                obtain rfl : j = 11 := by simpa using hj
                clear hj
                refine wpOp_step (o := _) rfl (fun K' hK' => ?_)
                go_simp
                refine hK' _ _ ⟨Or.inl (by rfl), ?_⟩
                clear hK'
                try simp only [Act.put, List.setIfInBounds_toArray, List.set_cons_zero, List.set_cons_succ]
                refine AnyBut.pure (i := 12) (v := ?_) rfl (by kernel_rfl) (by kernel_rfl) (by kernel_rfl) (by kernel_rfl) (fun _ _ _ h => h) (Or.inl ⟨by rfl, ?_⟩) ?_
                rotate_left
                · intro u _; go_simp; first | done | with_reducible rfl
                try simp only [Act.put, List.setIfInBounds_toArray]
                refine AnyBut.all (rs := [13]) (by kernel_rfl) (by simp) ?_
                intro j hj
                obtain rfl : j = 13 := by simpa using hj
                clear hj
                refine wpOp_step (o := _) rfl (fun K' hK' => ?_)
                go_simp
                refine hK' _ _ ⟨Or.inl (by rfl), ?_⟩
                clear hK'
                try simp only [Act.put, List.setIfInBounds_toArray, List.set_cons_zero, List.set_cons_succ]
                refine AnyBut.over (by kernel_rfl) ?_ _
                try simp only [Act.put, List.setIfInBounds_toArray, List.set_cons_zero, List.set_cons_succ]
                (clear ow1 ow2 ma0 ma1 mb0 mb1 m0 m1 z0 z1 HH e0 e1 f0 f1 w10 w11 wx4 wa0 wa1 wb4; go_wp2_with fail; go_meet; exact ⟨_, _, FIN.out⟩)
          · clear hj
            refine wpOp_step (o := _) rfl (fun K' hK' => ?_)
            go_simp
            refine hK' _ _ ⟨Or.inr ⟨by first | exact m0 | exact ma0 _ | exact mb0 _ _ | exact w10 | exact wa0 _, by first | exact m1 | exact ma1 _ | exact mb1 _ _ | exact w11 | exact wa1 _⟩, ?_⟩
            clear hK'
            try simp only [Act.put, List.setIfInBounds_toArray, List.set_cons_zero, List.set_cons_succ]
            refine AnyBut.all (rs := [2, 8]) (by kernel_rfl) (by simp) ?_
            intro j hj
            have hj' : j = 2 ∨ j = 8 := by simpa using hj
            rcases hj' with rfl | rfl
            · clear hj
              refine wpOp_step (o := _) rfl (fun K' hK' => ?_)
              go_simp
              refine hK' _ _ ⟨Or.inr ⟨by first | exact m0 | exact ma0 _ | exact mb0 _ _ | exact w10 | exact wa0 _, by first | exact m1 | exact ma1 _ | exact mb1 _ _ | exact w11 | exact wa1 _⟩, ?_⟩
              clear hK'
              try simp only [Act.put, List.setIfInBounds_toArray, List.set_cons_zero, List.set_cons_succ]
              refine AnyBut.all (rs := [3, 8]) (by kernel_rfl) (by simp) ?_
              intro j hj
              have hj' : j = 3 ∨ j = 8 := by simpa using hj
              rcases hj' with rfl | rfl
              · clear hj
                refine wpOp_step (o := _) rfl (fun K' hK' => ?_)
                refine step_append_own rfl (.tmp 51) (.tmp 52) 22 rfl (w.heap.size + 3) 9 i9 _ 1 16 Tryd.underlying22 hi9 hz90 hz91 hz92 rfl (by decide) v1 pl.length _ rfl (by first | exact ow1 | exact World.ownsRow.alloc ow1 _ | exact World.ownsRow.alloc (World.ownsRow.alloc ow1 _) _) _ 1 1 [.string ⟨#[101, 110, 100]⟩] rfl rfl (one_new (by first | exact cellA _ _ _ | exact cellB _ _ _ _ | exact cellC _ _ _ _)) (by intro u hu; simp only [List.mem_cons, List.not_mem_nil, or_false] at hu; rcases hu with rfl; rfl) (by unfold maxLen; omega) (by omega) (by first | omega | (simp; omega)) ?_
                intro y1 W1 hy1 hg1
                have hH1 := (HH.out.ext (by first | exact Below.refl _ _ | exact (Below.refl _ _).alloc (Nat.le_refl _) _ | exact ((Below.refl _ _).alloc (Nat.le_refl _) _).alloc (by simp) _ | exact (Below.refl _ _).drew | exact ((Below.refl _ _).drew).alloc (Nat.le_refl _) _ | exact (((Below.refl _ _).drew).alloc (Nat.le_refl _) _).alloc (by simp) _)).grown hg1 (fun k hk => (ow1.lt k hk).1)
                have oz2 := World.ownsRow.kept (by first | exact ow2 | exact World.ownsRow.alloc ow2 _ | exact World.ownsRow.alloc (World.ownsRow.alloc ow2 _) _) hg1 (rows_apart ow1 ow2 (by decide))
                have gk1 := keep_new ow1 hg1
                have w10 := block_cell hH1.way 0
                have w11 := block_cell hH1.way 1
                have wx4 := block_cell hH1.box 4
                simp at w10 w11 wx4
                have wa0 := fun o => cell_alloc' w10 o
                have wa1 := fun o => cell_alloc' w11 o
                have wb4 := fun o => cell_alloc' wx4 o
                have Hh1 := Lib.hid hH1
                clear hH1
                have sz1 := hg1.size
                simp at sz1
                clear hg1
                rcases owned_shape hy1 with ⟨_, h0⟩ | ⟨g1, p1, rfl, _⟩
                · exact absurd h0 (by omega)
                refine hK' _ _ ⟨Or.inr ⟨by first | exact m0 | exact ma0 _ | exact mb0 _ _ | exact w10 | exact wa0 _, by first | exact m1 | exact ma1 _ | exact mb1 _ _ | exact w11 | exact wa1 _⟩, ?_⟩
                clear hK'
                try simp only [Act.put, List.setIfInBounds_toArray]
                refine AnyBut.pure (i := 10) (v := ?_) rfl (by kernel_rfl) (by kernel_rfl) (by kernel_rfl) (by kernel_rfl) (fun _ _ _ h => h) (Or.inl ⟨by rfl, ?_⟩) ?_
                rotate_left
                · intro u _; go_simp; first | done | with_reducible rfl
                try simp only [Act.put]
                refine AnyBut.all (rs := [8]) (by kernel_rfl) (by simp) ?_
                intro j hj
                obtain rfl : j = 8 := by simpa using hj
                clear hj
                refine wpOp_step (o := _) rfl (fun K' hK' => ?_)
                go_simp
                refine hK' _ _ ⟨Or.inr ⟨by first | exact m0 | exact ma0 _ | exact mb0 _ _ | exact w10 | exact wa0 _, by first | exact m1 | exact ma1 _ | exact mb1 _ _ | exact w11 | exact wa1 _⟩, ?_⟩
                clear hK'
                try simp only [Act.put, List.setIfInBounds_toArray, List.set_cons_zero, List.set_cons_succ]
                refine AnyBut.all (rs := [9]) (by kernel_rfl) (by simp) ?_
                intro j hj
                obtain rfl : j = 9 := by simpa using hj
                clear hj
                refine wpOp_step (o := _) rfl (fun K' hK' => ?_)
                refine step_append_own rfl (.tmp 55) (.tmp 58) 23 rfl (w.heap.size + 3) 3 i3 _ 1 8 Tryd.underlying23 hi3 hz30 hz31 hz32 rfl (by decide) v2 pl.length _ rfl (by first | exact oz2 | exact World.ownsRow.alloc oz2 _ | exact World.ownsRow.alloc (World.ownsRow.alloc oz2 _) _) _ 1 1 [.int .i64 at_] rfl rfl (one_new (by first | exact cellA _ _ _ | exact cellB _ _ _ _ | exact cellC _ _ _ _ | exact gk1 _ _ (by first | omega | (simp; done)) (cellA _ _ _) | exact gk1 _ _ (by first | omega | (simp; done)) (cellB _ _ _ _) | exact gk1 _ _ (by first | omega | (simp; done)) (cellC _ _ _ _))) (by intro u hu; simp only [List.mem_cons, List.not_mem_nil, or_false] at hu; rcases hu with rfl; rfl) (by unfold maxLen; omega) (by omega) (by first | omega | (simp; omega)) ?_
                intro y2 W2 hy2 hg2
                have hH3 := (Hh1.out.ext (by first | exact Below.refl _ _ | exact (Below.refl _ _).alloc (Nat.le_refl _) _ | exact ((Below.refl _ _).alloc (Nat.le_refl _) _).alloc (by simp) _ | exact (Below.refl _ _).drew | exact ((Below.refl _ _).drew).alloc (Nat.le_refl _) _ | exact (((Below.refl _ _).drew).alloc (Nat.le_refl _) _).alloc (by simp) _)).grown hg2 (fun k hk => (oz2.lt k hk).1)
                have oy1 := World.ownsRow.kept (by first | exact hy1 | exact World.ownsRow.alloc hy1 _ | exact World.ownsRow.alloc (World.ownsRow.alloc hy1 _) _) hg2 (rows_apart oz2 hy1 (by decide))
                rcases owned_shape hy2 with ⟨_, h0⟩ | ⟨g2, p2, rfl, _⟩
                · exact absurd h0 (by omega)
                have e0 := block_cell hH3.way 0
                have e1 := block_cell hH3.way 1
                have f0 := block_free hH3.way 0
                have f1 := block_free hH3.way 1
                simp at e0 e1
                have FIN := Lib.hid (hH3.stored oy1 hy2)
                clear hg2
                refine hK' _ _ ⟨Or.inr ⟨e0, e1⟩, ?_⟩
                clear hK' hH3
                try simp only [Act.put, List.setIfInBounds_toArray]
                refine AnyBut.all (rs := [11]) (by kernel_rfl) (by simp) ?_
                intro j hj
                obtain rfl : j = 11 := by simpa using hj
                clear hj
                refine wpOp_step (o := _) rfl (fun K' hK' => ?_)
                go_simp
                refine hK' _ _ ⟨Or.inl (by rfl), ?_⟩
                clear hK'
                try simp only [Act.put, List.setIfInBounds_toArray, List.set_cons_zero, List.set_cons_succ]
                refine AnyBut.pure (i := 12) (v := ?_) rfl (by kernel_rfl) (by kernel_rfl) (by kernel_rfl) (by kernel_rfl) (fun _ _ _ h => h) (Or.inl ⟨by rfl, ?_⟩) ?_
                rotate_left
                · intro u _; go_simp; first | done | with_reducible rfl
                try simp only [Act.put, List.setIfInBounds_toArray]
                refine AnyBut.all (rs := [13]) (by kernel_rfl) (by simp) ?_
                intro j hj
                obtain rfl : j = 13 := by simpa using hj
                clear hj
                refine wpOp_step (o := _) rfl (fun K' hK' => ?_)
                go_simp
                refine hK' _ _ ⟨Or.inl (by rfl), ?_⟩
                clear hK'
                try simp only [Act.put, List.setIfInBounds_toArray, List.set_cons_zero, List.set_cons_succ]
                refine AnyBut.over (by kernel_rfl) ?_ _
                try simp only [Act.put, List.setIfInBounds_toArray, List.set_cons_zero, List.set_cons_succ]
                (clear ow1 ow2 ma0 ma1 mb0 mb1 m0 m1 z0 z1 HH e0 e1 f0 f1 w10 w11 wx4 wa0 wa1 wb4; go_wp2_with fail; go_meet; exact ⟨_, _, FIN.out⟩)
              · clear hj
                refine wpOp_step (o := _) rfl (fun K' hK' => ?_)
                go_simp
                refine hK' _ _ ⟨Or.inr ⟨by first | exact m0 | exact ma0 _ | exact mb0 _ _ | exact w10 | exact wa0 _, by first | exact m1 | exact ma1 _ | exact mb1 _ _ | exact w11 | exact wa1 _⟩, ?_⟩
                clear hK'
                try simp only [Act.put, List.setIfInBounds_toArray, List.set_cons_zero, List.set_cons_succ]
                refine AnyBut.all (rs := [3]) (by kernel_rfl) (by simp) ?_
                intro j hj
                obtain rfl : j = 3 := by simpa using hj
                clear hj
                refine wpOp_step (o := _) rfl (fun K' hK' => ?_)
                refine step_append_own rfl (.tmp 51) (.tmp 52) 22 rfl (w.heap.size + 3) 9 i9 _ 1 16 Tryd.underlying22 hi9 hz90 hz91 hz92 rfl (by decide) v1 pl.length _ rfl (by first | exact ow1 | exact World.ownsRow.alloc ow1 _ | exact World.ownsRow.alloc (World.ownsRow.alloc ow1 _) _) _ 1 1 [.string ⟨#[101, 110, 100]⟩] rfl rfl (one_new (by first | exact cellA _ _ _ | exact cellB _ _ _ _ | exact cellC _ _ _ _)) (by intro u hu; simp only [List.mem_cons, List.not_mem_nil, or_false] at hu; rcases hu with rfl; rfl) (by unfold maxLen; omega) (by omega) (by first | omega | (simp; omega)) ?_
                intro y1 W1 hy1 hg1
                have hH1 := (HH.out.ext (by first | exact Below.refl _ _ | exact (Below.refl _ _).alloc (Nat.le_refl _) _ | exact ((Below.refl _ _).alloc (Nat.le_refl _) _).alloc (by simp) _ | exact (Below.refl _ _).drew | exact ((Below.refl _ _).drew).alloc (Nat.le_refl _) _ | exact (((Below.refl _ _).drew).alloc (Nat.le_refl _) _).alloc (by simp) _)).grown hg1 (fun k hk => (ow1.lt k hk).1)
                have oz2 := World.ownsRow.kept (by first | exact ow2 | exact World.ownsRow.alloc ow2 _ | exact World.ownsRow.alloc (World.ownsRow.alloc ow2 _) _) hg1 (rows_apart ow1 ow2 (by decide))
                have gk1 := keep_new ow1 hg1
                have w10 := block_cell hH1.way 0
                have w11 := block_cell hH1.way 1
                have wx4 := block_cell hH1.box 4
                simp at w10 w11 wx4
                have wa0 := fun o => cell_alloc' w10 o
                have wa1 := fun o => cell_alloc' w11 o
                have wb4 := fun o => cell_alloc' wx4 o
                have Hh1 := Lib.hid hH1
                clear hH1
                have sz1 := hg1.size
                simp at sz1
                clear hg1
                rcases owned_shape hy1 with ⟨_, h0⟩ | ⟨g1, p1, rfl, _⟩
                · exact absurd h0 (by omega)
                refine hK' _ _ ⟨Or.inr ⟨by first | exact m0 | exact ma0 _ | exact mb0 _ _ | exact w10 | exact wa0 _, by first | exact m1 | exact ma1 _ | exact mb1 _ _ | exact w11 | exact wa1 _⟩, ?_⟩
                clear hK'
                try simp only [Act.put, List.setIfInBounds_toArray]
                refine AnyBut.pure (i := 10) (v := ?_) rfl (by kernel_rfl) (by kernel_rfl) (by kernel_rfl) (by kernel_rfl) (fun _ _ _ h => h) (Or.inl ⟨by rfl, ?_⟩) ?_
                rotate_left
                · intro u _; go_simp; first | done | with_reducible rfl
                try simp only [Act.put]
                refine AnyBut.all (rs := [9]) (by kernel_rfl) (by simp) ?_
                intro j hj
                obtain rfl : j = 9 := by simpa using hj
                clear hj
                refine wpOp_step (o := _) rfl (fun K' hK' => ?_)
                refine step_append_own rfl (.tmp 55) (.tmp 58) 23 rfl (w.heap.size + 3) 3 i3 _ 1 8 Tryd.underlying23 hi3 hz30 hz31 hz32 rfl (by decide) v2 pl.length _ rfl (by first | exact oz2 | exact World.ownsRow.alloc oz2 _ | exact World.ownsRow.alloc (World.ownsRow.alloc oz2 _) _) _ 1 1 [.int .i64 at_] rfl rfl (one_new (by first | exact cellA _ _ _ | exact cellB _ _ _ _ | exact cellC _ _ _ _ | exact gk1 _ _ (by first | omega | (simp; done)) (cellA _ _ _) | exact gk1 _ _ (by first | omega | (simp; done)) (cellB _ _ _ _) | exact gk1 _ _ (by first | omega | (simp; done)) (cellC _ _ _ _))) (by intro u hu; simp only [List.mem_cons, List.not_mem_nil, or_false] at hu; rcases hu with rfl; rfl) (by unfold maxLen; omega) (by omega) (by first | omega | (simp; omega)) ?_
                intro y2 W2 hy2 hg2
                have hH3 := (Hh1.out.ext (by first | exact Below.refl _ _ | exact (Below.refl _ _).alloc (Nat.le_refl _) _ | exact ((Below.refl _ _).alloc (Nat.le_refl _) _).alloc (by simp) _ | exact (Below.refl _ _).drew | exact ((Below.refl _ _).drew).alloc (Nat.le_refl _) _ | exact (((Below.refl _ _).drew).alloc (Nat.le_refl _) _).alloc (by simp) _)).grown hg2 (fun k hk => (oz2.lt k hk).1)
                have oy1 := World.ownsRow.kept (by first | exact hy1 | exact World.ownsRow.alloc hy1 _ | exact World.ownsRow.alloc (World.ownsRow.alloc hy1 _) _) hg2 (rows_apart oz2 hy1 (by decide))
                rcases owned_shape hy2 with ⟨_, h0⟩ | ⟨g2, p2, rfl, _⟩
                · exact absurd h0 (by omega)
                have e0 := block_cell hH3.way 0
                have e1 := block_cell hH3.way 1
                have f0 := block_free hH3.way 0
                have f1 := block_free hH3.way 1
                simp at e0 e1
                have FIN := Lib.hid (hH3.stored oy1 hy2)
                clear hg2
                refine hK' _ _ ⟨Or.inr ⟨e0, e1⟩, ?_⟩
                clear hK' hH3
                try simp only [Act.put]
                refine AnyBut.all (rs := [11]) (by kernel_rfl) (by simp) ?_
                intro j hj
                obtain rfl : j = 11 := by simpa using hj
                clear hj
                refine wpOp_step (o := _) rfl (fun K' hK' => ?_)
                go_simp
                refine hK' _ _ ⟨Or.inl (by rfl), ?_⟩
                clear hK'
                try simp only [Act.put, List.setIfInBounds_toArray, List.set_cons_zero, List.set_cons_succ]
                refine AnyBut.pure (i := 12) (v := ?_) rfl (by kernel_rfl) (by kernel_rfl) (by kernel_rfl) (by kernel_rfl) (fun _ _ _ h => h) (Or.inl ⟨by rfl, ?_⟩) ?_
                rotate_left
                · intro u _; go_simp; first | done | with_reducible rfl
                try simp only [Act.put, List.setIfInBounds_toArray]
                refine AnyBut.all (rs := [13]) (by kernel_rfl) (by simp) ?_
                intro j hj
                obtain rfl : j = 13 := by simpa using hj
                clear hj
                refine wpOp_step (o := _) rfl (fun K' hK' => ?_)
                go_simp
                refine hK' _ _ ⟨Or.inl (by rfl), ?_⟩
                clear hK'
                try simp only [Act.put, List.setIfInBounds_toArray, List.set_cons_zero, List.set_cons_succ]
                refine AnyBut.over (by kernel_rfl) ?_ _
                try simp only [Act.put, List.setIfInBounds_toArray, List.set_cons_zero, List.set_cons_succ]
                (clear ow1 ow2 ma0 ma1 mb0 mb1 m0 m1 z0 z1 HH e0 e1 f0 f1 w10 w11 wx4 wa0 wa1 wb4; go_wp2_with fail; go_meet; exact ⟨_, _, FIN.out⟩)
            · clear hj
              refine wpOp_step (o := _) rfl (fun K' hK' => ?_)
              go_simp
              refine hK' _ _ ⟨Or.inr ⟨by first | exact m0 | exact ma0 _ | exact mb0 _ _ | exact w10 | exact wa0 _, by first | exact m1 | exact ma1 _ | exact mb1 _ _ | exact w11 | exact wa1 _⟩, ?_⟩
              clear hK'
              try simp only [Act.put, List.setIfInBounds_toArray, List.set_cons_zero, List.set_cons_succ]
              refine AnyBut.all (rs := [2]) (by kernel_rfl) (by simp) ?_
              intro j hj
              obtain rfl : j = 2 := by simpa using hj
              clear hj
              refine wpOp_step (o := _) rfl (fun K' hK' => ?_)
              go_simp
              refine hK' _ _ ⟨Or.inr ⟨by first | exact m0 | exact ma0 _ | exact mb0 _ _ | exact w10 | exact wa0 _, by first | exact m1 | exact ma1 _ | exact mb1 _ _ | exact w11 | exact wa1 _⟩, ?_⟩
              clear hK'
              try simp only [Act.put, List.setIfInBounds_toArray, List.set_cons_zero, List.set_cons_succ]
              refine AnyBut.all (rs := [3]) (by kernel_rfl) (by simp) ?_
              intro j hj
              obtain rfl : j = 3 := by simpa using hj
              clear hj
              refine wpOp_step (o := _) rfl (fun K' hK' => ?_)
              refine step_append_own rfl (.tmp 51) (.tmp 52) 22 rfl (w.heap.size + 3) 9 i9 _ 1 16 Tryd.underlying22 hi9 hz90 hz91 hz92 rfl (by decide) v1 pl.length _ rfl (by first | exact ow1 | exact World.ownsRow.alloc ow1 _ | exact World.ownsRow.alloc (World.ownsRow.alloc ow1 _) _) _ 1 1 [.string ⟨#[101, 110, 100]⟩] rfl rfl (one_new (by first | exact cellA _ _ _ | exact cellB _ _ _ _ | exact cellC _ _ _ _)) (by intro u hu; simp only [List.mem_cons, List.not_mem_nil, or_false] at hu; rcases hu with rfl; rfl) (by unfold maxLen; omega) (by omega) (by first | omega | (simp; omega)) ?_
              intro y1 W1 hy1 hg1
              have hH1 := (HH.out.ext (by first | exact Below.refl _ _ | exact (Below.refl _ _).alloc (Nat.le_refl _) _ | exact ((Below.refl _ _).alloc (Nat.le_refl _) _).alloc (by simp) _ | exact (Below.refl _ _).drew | exact ((Below.refl _ _).drew).alloc (Nat.le_refl _) _ | exact (((Below.refl _ _).drew).alloc (Nat.le_refl _) _).alloc (by simp) _)).grown hg1 (fun k hk => (ow1.lt k hk).1)
              have oz2 := World.ownsRow.kept (by first | exact ow2 | exact World.ownsRow.alloc ow2 _ | exact World.ownsRow.alloc (World.ownsRow.alloc ow2 _) _) hg1 (rows_apart ow1 ow2 (by decide))
              have gk1 := keep_new ow1 hg1
              have w10 := block_cell hH1.way 0
              have w11 := block_cell hH1.way 1
              have wx4 := block_cell hH1.box 4
              simp at w10 w11 wx4
              have wa0 := fun o => cell_alloc' w10 o
              have wa1 := fun o => cell_alloc' w11 o
              have wb4 := fun o => cell_alloc' wx4 o
              have Hh1 := Lib.hid hH1
              clear hH1
              have sz1 := hg1.size
              simp at sz1
              clear hg1
              rcases owned_shape hy1 with ⟨_, h0⟩ | ⟨g1, p1, rfl, _⟩
              · exact absurd h0 (by omega)
              refine hK' _ _ ⟨Or.inr ⟨by first | exact m0 | exact ma0 _ | exact mb0 _ _ | exact w10 | exact wa0 _, by first | exact m1 | exact ma1 _ | exact mb1 _ _ | exact w11 | exact wa1 _⟩, ?_⟩
              clear hK'
              try simp only [Act.put, List.setIfInBounds_toArray]
              refine AnyBut.pure (i := 10) (v := ?_) rfl (by kernel_rfl) (by kernel_rfl) (by kernel_rfl) (by kernel_rfl) (fun _ _ _ h => h) (Or.inl ⟨by rfl, ?_⟩) ?_
              rotate_left
              · intro u _; go_simp; first | done | with_reducible rfl
              try simp only [Act.put]
              refine AnyBut.all (rs := [9]) (by kernel_rfl) (by simp) ?_
              intro j hj
              obtain rfl : j = 9 := by simpa using hj
              clear hj
              refine wpOp_step (o := _) rfl (fun K' hK' => ?_)
              refine step_append_own rfl (.tmp 55) (.tmp 58) 23 rfl (w.heap.size + 3) 3 i3 _ 1 8 Tryd.underlying23 hi3 hz30 hz31 hz32 rfl (by decide) v2 pl.length _ rfl (by first | exact oz2 | exact World.ownsRow.alloc oz2 _ | exact World.ownsRow.alloc (World.ownsRow.alloc oz2 _) _) _ 1 1 [.int .i64 at_] rfl rfl (one_new (by first | exact cellA _ _ _ | exact cellB _ _ _ _ | exact cellC _ _ _ _ | exact gk1 _ _ (by first | omega | (simp; done)) (cellA _ _ _) | exact gk1 _ _ (by first | omega | (simp; done)) (cellB _ _ _ _) | exact gk1 _ _ (by first | omega | (simp; done)) (cellC _ _ _ _))) (by intro u hu; simp only [List.mem_cons, List.not_mem_nil, or_false] at hu; rcases hu with rfl; rfl) (by unfold maxLen; omega) (by omega) (by first | omega | (simp; omega)) ?_
              intro y2 W2 hy2 hg2
              have hH3 := (Hh1.out.ext (by first | exact Below.refl _ _ | exact (Below.refl _ _).alloc (Nat.le_refl _) _ | exact ((Below.refl _ _).alloc (Nat.le_refl _) _).alloc (by simp) _ | exact (Below.refl _ _).drew | exact ((Below.refl _ _).drew).alloc (Nat.le_refl _) _ | exact (((Below.refl _ _).drew).alloc (Nat.le_refl _) _).alloc (by simp) _)).grown hg2 (fun k hk => (oz2.lt k hk).1)
              have oy1 := World.ownsRow.kept (by first | exact hy1 | exact World.ownsRow.alloc hy1 _ | exact World.ownsRow.alloc (World.ownsRow.alloc hy1 _) _) hg2 (rows_apart oz2 hy1 (by decide))
              rcases owned_shape hy2 with ⟨_, h0⟩ | ⟨g2, p2, rfl, _⟩
              · exact absurd h0 (by omega)
              have e0 := block_cell hH3.way 0
              have e1 := block_cell hH3.way 1
              have f0 := block_free hH3.way 0
              have f1 := block_free hH3.way 1
              simp at e0 e1
              have FIN := Lib.hid (hH3.stored oy1 hy2)
              clear hg2
              refine hK' _ _ ⟨Or.inr ⟨e0, e1⟩, ?_⟩
              clear hK' hH3
              try simp only [Act.put]
              refine AnyBut.all (rs := [11]) (by kernel_rfl) (by simp) ?_
              intro j hj
              obtain rfl : j = 11 := by simpa using hj
              clear hj
              refine wpOp_step (o := _) rfl (fun K' hK' => ?_)
              go_simp
              refine hK' _ _ ⟨Or.inl (by rfl), ?_⟩
              clear hK'
              try simp only [Act.put, List.setIfInBounds_toArray, List.set_cons_zero, List.set_cons_succ]
              refine AnyBut.pure (i := 12) (v := ?_) rfl (by kernel_rfl) (by kernel_rfl) (by kernel_rfl) (by kernel_rfl) (fun _ _ _ h => h) (Or.inl ⟨by rfl, ?_⟩) ?_
              rotate_left
              · intro u _; go_simp; first | done | with_reducible rfl
              try simp only [Act.put, List.setIfInBounds_toArray]
              refine AnyBut.all (rs := [13]) (by kernel_rfl) (by simp) ?_
              intro j hj
              obtain rfl : j = 13 := by simpa using hj
              clear hj
              refine wpOp_step (o := _) rfl (fun K' hK' => ?_)
              go_simp
              refine hK' _ _ ⟨Or.inl (by rfl), ?_⟩
              clear hK'
              try simp only [Act.put, List.setIfInBounds_toArray, List.set_cons_zero, List.set_cons_succ]
              refine AnyBut.over (by kernel_rfl) ?_ _
              try simp only [Act.put, List.setIfInBounds_toArray, List.set_cons_zero, List.set_cons_succ]
              (clear ow1 ow2 ma0 ma1 mb0 mb1 m0 m1 z0 z1 HH e0 e1 f0 f1 w10 w11 wx4 wa0 wa1 wb4; go_wp2_with fail; go_meet; exact ⟨_, _, FIN.out⟩)
      · have he1 : (en % 3 == 0) = false := by simp [he]
        have he2 : decide (en % 3 = 0) = false := by simp [he]
        have HE := Lib.hid he
        clear he
        have hs1 : stepsOf pl (en % 3) at_ = pl := by unfold stepsOf; rw [if_neg HE.out]
        have FIN : wr.ownsRow (w.heap.size + 3) 9 1 v1 (stepsOf pl (en % 3) at_).length (strs (stepsOf pl (en % 3) at_)) ∧ wr.ownsRow (w.heap.size + 3) 3 1 v2 (stepsOf pl (en % 3) at_).length (ints (stepsOf pl (en % 3) at_)) := by
          rw [hs1]; exact ⟨hM.own1, hM.own2⟩
        obtain ⟨q1, q2, q3, rfl⟩ := owned_slice hM.own1
        obtain ⟨q4, q5, q6, rfl⟩ := owned_slice hM.own2
        have HF := Lib.hid FIN
        clear hs1 FIN
        have hMh := hM.half
        clear hM m0 m1 m2 m3 m4
        have u0 := block_cell hMh.way 0
        have u1 := block_cell hMh.way 1
        have u2 := block_cell hMh.way 2
        have u3 := block_cell hMh.way 3
        have u4' := block_cell hMh.way 4
        have r0 := block_cell hMh.res 0
        have r1 := block_cell hMh.res 1
        have r2 := block_cell hMh.res 2
        have r3 := block_cell hMh.res 3
        have r4 := block_cell hMh.res 4
        have f0 := block_free hMh.res 0
        have f1 := block_free hMh.res 1
        have f2 := block_free hMh.res 2
        have f3 := block_free hMh.res 3
        have f4 := block_free hMh.res 4
        have S1 := block_set hMh.res 0 (.slice q1 q2 q3)
        have S2 := block_set S1 1 (.slice q4 q5 q6)
        have S3 := block_set S2 2 (.int .i64 (en % 3))
        have S4 := block_set S3 3 (.int .i64 code)
        have S5 := block_set S4 4 (.int .i64 at_)
        have g0 := block_cell S5 0
        have g1 := block_cell S5 1
        have g2 := block_cell S5 2
        have g3 := block_cell S5 3
        have g4 := block_cell S5 4
        have HH := Lib.hid hMh
        clear hMh S1 S2 S3 S4 S5
        simp at u0 u1 u2 u3 u4' r0 r1 r2 r3 r4 g0 g1 g2 g3 g4
        have HG := Lib.hid (And.intro g0 (And.intro g1 (And.intro g2 (And.intro g3 g4))))
        clear g0 g1 g2 g3 g4
        go_wp2
        obtain ⟨g0, g1, g2, g3, g4⟩ := HG.out
        exact bodyPost_ret (v := .agg #[.slice q1 q2 q3, .slice q4 q5 q6, .int .i64 (en % 3), .int .i64 code, .int .i64 at_]) (by simp [results, Tryd.results9, go_sem, g0, g1, g2, g3, g4]) rfl
          ⟨_, _, rfl, owned_mono (own_set5 HF.out.1) (by omega), owned_mono (own_set5 HF.out.2) (by omega), below_set5 HH.out.below⟩
end Go.Proofs.YtpeoodljchpadaaDoor
