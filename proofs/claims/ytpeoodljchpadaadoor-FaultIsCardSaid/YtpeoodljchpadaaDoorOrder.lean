/-
  A region that draws its order, some loads of which may be taken first though the last operations of the region store into what was loaded: these wait for the loads. No conditions.
-/
import Derived.Test.YtpeoodljchpadaaDoorProg
import Derived.WalkKit
import Derived.OrdersHeld
import Derived.RegionTactic
namespace Go.Proofs.YtpeoodljchpadaaDoor
open Go.RowKit

section
variable {P : Program} {md : Region.Mode} {ops : Array Oper} {Q : Exit → Act → World → Prop} {S : World → Prop} {F : Nat → Bool}

/-- every order from here on is borne, and behind every operation that F does not name S holds -/
def AnyBut (P : Program) (md : Region.Mode) (ops : Array Oper) (Q : Exit → Act → World → Prop) (S : World → Prop) (F : Nat → Bool) : Nat → Array Bool → Act → World → Prop
  | 0, done, a, w => Region.ready md ops done = [] ∧ Q .normal a w
  | n + 1, done, a, w => (Region.ready md ops done = [] → Q .normal a w) ∧
      ∀ j ∈ Region.ready md ops done, wpOp P ops Q j (fun b u => (F j = true ∨ S u) ∧ AnyBut P md ops Q S F n (done.setIfInBounds j true) b u) a w

theorem AnyBut.any (n : Nat) : ∀ (done : Array Bool) (a : Act) (w : World), AnyBut P md ops Q S F n done a w → wpAny P md ops Q n done a w := by
  induction n with
  | zero => exact fun _ _ _ h => h
  | succ n ih => exact fun done a w h => ⟨h.1, fun j hj => wpOp_mono (fun b u hb => ih _ b u hb.2) (h.2 j hj)⟩

/-- operation i may be taken first: it yields v in every world of S; the others wait for it or are apart from it; those of F wait for it -/
theorem AnyBut.first {i : Nat} {oi : Oper} {v : Value} (hi : ops[i]? = some oi) (hs : Region.noSelect ops = true)
    (hQ : ∀ c a w, Q (.panic c) (a.put oi.dst v) w → Q (.panic c) a w)
    (n : Nat) :
    ∀ (done : Array Bool) (a : Act) (w : World), (∀ j oj, F j = true → ops[j]? = some oj → done.getD j true = false → j = i ∨ ∃ e ∈ oj.after, Region.binds md e = true ∧ e.on = i) →
      (∀ j oj, ops[j]? = some oj → j ≠ i → done.getD j true = false → (∀ e ∈ oj.after, Region.binds md e = true → e.on ≠ i) → oi.apart ops oj = true) →
      i ∈ Region.ready md ops done → YieldsIf P ops S oi v a → S w →
      AnyBut P md ops Q S F n (done.setIfInBounds i true) (a.put oi.dst v) w → AnyBut P md ops Q S F (n + 1) done a w := by
  have sel := Region.noSelect_spec hs
  induction n with
  | zero =>
    intro done a w _ _ hr hy hS H
    refine ⟨fun h => by simp [h] at hr, fun j hj => ?_⟩
    rcases Nat.decEq j i with hne | rfl
    · have := ready_mono hj hne
      simp [H.1] at this
    · exact hy.wpOp hi hS ⟨Or.inr hS, H⟩
  | succ n ih =>
    intro done a w hF hap hr hy hS H
    refine ⟨fun h => by simp [h] at hr, fun j hj => ?_⟩
    rcases Nat.decEq j i with hne | rfl
    · obtain ⟨hjd, oj, hoj, hready⟩ := mem_ready.1 hj
      have hid := (mem_ready.1 hr).1
      have hidf : done.getD i false = false := by
        rcases Nat.lt_or_ge i done.size with h | h
        · simpa [h] using hid
        · simp [Array.getElem?_eq_none h]
      have nowait : ∀ e ∈ oj.after, Region.binds md e = true → e.on ≠ i := fun e he hb heq => by
        have := hready e he hb
        rw [heq, hidf] at this
        cases this
      have hFj : F j = false := by
        cases hf : F j
        · rfl
        · rcases hF j oj hf hoj hjd with h | ⟨e, he, hb, heq⟩
          · exact absurd h hne
          · exact absurd heq (nowait e he hb)
      have step := wpOp_putIf hoj (hap j oj hoj hne hjd nowait) (fun cs b => sel i oi cs b hi) (fun cs b => sel j oj cs b hoj) hQ hy (H.2 j (ready_mono hj hne))
      refine wpOp_mono (fun b u hbu => ?_) step
      obtain ⟨hy2, hSu, H2⟩ := hbu
      have hSu' : S u := by
        rcases hSu with h | h
        · rw [hFj] at h; cases h
        · exact h
      refine ⟨Or.inr hSu', ih _ b u ?_ ?_ (ready_mono hr (Ne.symm hne)) hy2 hSu' (by rw [Array.setIfInBounds_comm _ _ hne]; exact H2)⟩
      · intro k ok hk hok hun
        refine hF k ok hk hok ?_
        rcases Nat.decEq j k with hjk | rfl
        · rw [getD_set_ne true hjk] at hun; exact hun
        · exact hjd
      intro k ok hk hki hun hno
      refine hap k ok hk hki ?_ hno
      rcases Nat.decEq j k with hjk | rfl
      · rw [getD_set_ne true hjk] at hun; exact hun
      · exact hjd
    · exact hy.wpOp hi hS ⟨Or.inr hS, H⟩

/-- do all operations that F names wait for operation i? -/
def waitsAll (md : Region.Mode) (ops : Array Oper) (F : Nat → Bool) (done : Array Bool) (i : Nat) : Bool :=
  (List.range ops.size).all fun j => !F j || done.getD j true || j == i || match ops[j]? with
    | some oj => oj.after.any fun e => Region.binds md e && e.on == i
    | none => true

theorem AnyBut.take {i : Nat} {oi : Oper} {v : Value} {n : Nat} {done : Array Bool} {a : Act} {w : World} (hi : ops[i]? = some oi)
    (hs : Region.noSelect ops = true) (hf : Region.free md ops done i = true) (hr : (Region.ready md ops done).contains i = true) (hF : waitsAll md ops F done i = true)
    (hQ : ∀ c a w, Q (.panic c) (a.put oi.dst v) w → Q (.panic c) a w) (hy : YieldsIf P ops S oi v a) (hS : S w)
    (h : AnyBut P md ops Q S F n (done.setIfInBounds i true) (a.put oi.dst v) w) : AnyBut P md ops Q S F (n + 1) done a w := by
  refine AnyBut.first hi hs hQ n done a w ?_ (Region.free_spec hi hf) (by simpa using hr) hy hS h
  intro j oj hj hoj hun
  rcases Nat.decEq j i with hne | rfl
  case isTrue => exact Or.inl rfl
  refine Or.inr ?_
  have h1 := List.all_eq_true.1 hF j (List.mem_range.2 (Array.getElem?_eq_some_iff.1 hoj).1)
  simp only [hj, hoj, hun, beq_eq_false_iff_ne.2 hne, Bool.not_true, Bool.false_or] at h1
  obtain ⟨e, he, hb⟩ := Array.any_eq_true'.1 h1
  simp only [Bool.and_eq_true, beq_iff_eq] at hb
  exact ⟨e, he, hb.1, hb.2⟩

/-- an operation that yields its value whatever the world is may be taken first -/
theorem AnyBut.firstPure {i : Nat} {oi : Oper} {v : Value} (hi : ops[i]? = some oi) (hs : Region.noSelect ops = true)
    (hQ : ∀ c a w, Q (.panic c) (a.put oi.dst v) w → Q (.panic c) a w) (n : Nat) :
    ∀ (done : Array Bool) (a : Act) (w : World),
      (∀ j oj, ops[j]? = some oj → j ≠ i → done.getD j true = false → (∀ e ∈ oj.after, Region.binds md e = true → e.on ≠ i) → oi.apart ops oj = true) →
      i ∈ Region.ready md ops done → YieldsIf P ops (fun _ => True) oi v a → (F i = true ∨ S w) → (∀ j, F j = true → F i = true) →
      AnyBut P md ops Q S F n (done.setIfInBounds i true) (a.put oi.dst v) w → AnyBut P md ops Q S F (n + 1) done a w := by
  have sel := Region.noSelect_spec hs
  induction n with
  | zero =>
    intro done a w _ hr hy hS hFF H
    refine ⟨fun h => by simp [h] at hr, fun j hj => ?_⟩
    rcases Nat.decEq j i with hne | rfl
    · have := ready_mono hj hne
      simp [H.1] at this
    · exact hy.wpOp hi trivial ⟨hS, H⟩
  | succ n ih =>
    intro done a w hap hr hy hS hFF H
    refine ⟨fun h => by simp [h] at hr, fun j hj => ?_⟩
    rcases Nat.decEq j i with hne | rfl
    · obtain ⟨hjd, oj, hoj, hready⟩ := mem_ready.1 hj
      have hid := (mem_ready.1 hr).1
      have hidf : done.getD i false = false := by
        rcases Nat.lt_or_ge i done.size with h | h
        · simpa [h] using hid
        · simp [Array.getElem?_eq_none h]
      have nowait : ∀ e ∈ oj.after, Region.binds md e = true → e.on ≠ i := fun e he hb heq => by
        have := hready e he hb
        rw [heq, hidf] at this
        cases this
      have step := wpOp_putIf hoj (hap j oj hoj hne hjd nowait) (fun cs b => sel i oi cs b hi) (fun cs b => sel j oj cs b hoj) hQ hy (H.2 j (ready_mono hj hne))
      refine wpOp_mono (fun b u hbu => ?_) step
      obtain ⟨hy2, hSu, H2⟩ := hbu
      refine ⟨hSu, ih _ b u ?_ (ready_mono hr (Ne.symm hne)) hy2 (hSu.imp (hFF j) id) hFF (by rw [Array.setIfInBounds_comm _ _ hne]; exact H2)⟩
      intro k ok hk hki hun hno
      refine hap k ok hk hki ?_ hno
      rcases Nat.decEq j k with hjk | rfl
      · rw [getD_set_ne true hjk] at hun; exact hun
      · exact hjd
    · exact hy.wpOp hi trivial ⟨hS, H⟩
theorem AnyBut.pure {i : Nat} {oi : Oper} {v : Value} {n : Nat} {done : Array Bool} {a : Act} {w : World} (hi : ops[i]? = some oi)
    (hs : Region.noSelect ops = true) (hf : Region.free md ops done i = true) (hr : (Region.ready md ops done).contains i = true) (hF : F i = true)
    (hQ : ∀ c a w, Q (.panic c) (a.put oi.dst v) w → Q (.panic c) a w) (hy : YieldsIf P ops (fun _ => True) oi v a)
    (h : AnyBut P md ops Q S F n (done.setIfInBounds i true) (a.put oi.dst v) w) : AnyBut P md ops Q S F (n + 1) done a w :=
  AnyBut.firstPure hi hs hQ n done a w (Region.free_spec hi hf) (by simpa using hr) hy (Or.inl hF) (fun _ _ => hF) h

theorem AnyBut.all {rs : List Nat} {n : Nat} {done : Array Bool} {a : Act} {w : World} (hr : Region.ready md ops done = rs) (hne : rs ≠ [])
    (h : ∀ j ∈ rs, wpOp P ops Q j (fun b u => (F j = true ∨ S u) ∧ AnyBut P md ops Q S F n (done.setIfInBounds j true) b u) a w) : AnyBut P md ops Q S F (n + 1) done a w :=
  ⟨fun h0 => absurd (hr ▸ h0) hne, hr ▸ h⟩
theorem AnyBut.over {done : Array Bool} {a : Act} {w : World} (hr : Region.ready md ops done = []) (h : Q .normal a w) (n : Nat) : AnyBut P md ops Q S F n done a w := by
  cases n with
  | zero => exact ⟨hr, h⟩
  | succ n => exact ⟨fun _ => h, by rw [hr]; simp⟩
theorem wp_region_but {id : Nat} {a : Act} {w : World} (S : World → Prop) (F : Nat → Bool) (hm : P.follows .mixedOrders = true)
    (h : AnyBut P .any ops Q S F ops.size (Array.replicate ops.size false) a w.drew) : (Code.region id ops true).wp P Q a w :=
  wp_region_any hm (AnyBut.any _ _ _ _ h)
end
end Go.Proofs.YtpeoodljchpadaaDoor
