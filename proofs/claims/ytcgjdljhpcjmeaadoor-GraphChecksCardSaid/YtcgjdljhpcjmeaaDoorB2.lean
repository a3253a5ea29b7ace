import Derived.Test.YtcgjdljhpcjmeaaDoorB1
import Derived.Test.YtcgjdljhpcjmeaaDoorG0
import Derived.Test.YtcgjdljhpcjmeaaDoorPlan
namespace Go.Proofs.YtcgjdljhpcjmeaaDoor
open Go.RowKit Go.Proofs.YtcgjdljhpcjmeaaDoorW.PrintWords Go.Proofs.YtcgjdljhpcjmeaaDoorW.PrintMore

theorem plus_calls (a b : Int) (w : World) (ha : 0 ≤ a) (ha' : a ≤ Fw.never) (hb : 0 ≤ b) (hb' : b ≤ Fw.never) :
    Calls Tryd.prog 60 #[.int .u64 a, .int .u64 b] w fun e w' => e = .returned (.int .u64 (Fw.plusP a b)) ∧ w = w' := by
  unfold Fw.never at ha' hb'
  by_cases h : a ≥ 18446744073709551615 - b
  · have e : Fw.plusP a b = 18446744073709551615 := if_pos h
    rw [e]; clear e
    go_enter Tryd.func60, Tryd.ntmps60
    go_wp2
    go_ret
    exact ⟨rfl, rfl⟩
  · have e : Fw.plusP a b = a + b := if_neg h
    rw [e]; clear e
    have h' : a < 18446744073709551615 - b := by omega
    clear h
    go_enter Tryd.func60, Tryd.ntmps60
    go_wp2
    go_ret
    exact ⟨rfl, rfl⟩

/-! A square in memory: a row of rows, each a block of its own. -/
def rowV (n : Nat) (b : Nat) : Value := .slice (some ⟨b, 0, none⟩) n n
def rowC (r : List Int) : Array Value := (r.map (Value.int .u64)).toArray
structure Mat (w : World) (base : Nat) (v : Value) (n : Nat) (rows : List Nat) (M : List (List Int)) : Prop where
  own : w.ownsRow base 70 1 v rows.length (rows.map (rowV n))
  len : rows.length = M.length
  nodup : ∀ i j b : Nat, rows[i]? = some b → rows[j]? = some b → i = j
  blk : ∀ i b : Nat, rows[i]? = some b → base ≤ b ∧ w.heap[b]? = some (.cells (rowC (M.getD i [])) 47 (0, 0))

theorem Mat.nil (w : World) (base n : Nat) : Mat w base (.slice none 0 0) n [] [] := ⟨own_nil _ _ _ _, rfl, fun _ _ _ h => by simp at h, fun _ _ h => by simp at h⟩
theorem Mat.below {w w1 : World} {base n : Nat} {v : Value} {rows : List Nat} {M : List (List Int)} (h : Mat w base v n rows M) (hb : Below w.heap.size w w1) : Mat w1 base v n rows M :=
  ⟨pw_own_below h.own hb, h.len, h.nodup, fun i b hi => ⟨(h.blk i b hi).1, (hb.block b (Array.getElem?_eq_some_iff.1 (h.blk i b hi).2).1).trans (h.blk i b hi).2⟩⟩
theorem Mat.lower {w : World} {base base' n : Nat} {v : Value} {rows : List Nat} {M : List (List Int)} (h : Mat w base v n rows M) (hb : base' ≤ base) : Mat w base' v n rows M :=
  ⟨own_weaken h.own hb, h.len, h.nodup, fun i b hi => ⟨Nat.le_trans hb (h.blk i b hi).1, (h.blk i b hi).2⟩⟩
/-- What a reader needs of the outer row. -/
theorem Mat.outer {w : World} {base n : Nat} {v : Value} {rows : List Nat} {M : List (List Int)} (h : Mat w base v n rows M) (hp : 0 < rows.length) :
    ∃ g cap, v = .slice (some ⟨g, 0, none⟩) rows.length cap ∧ base ≤ g ∧ (∃ cur, w.heap[g]? = some (.cells cur 70 (0, 0))) ∧ ∀ (i b : Nat), rows[i]? = some b → w.cell? ⟨g, i, none⟩ = some (.slice (some ⟨b, 0, none⟩) n n) := by
  obtain ⟨g, cap, rfl, hg, _⟩ := h.own.form hp
  refine ⟨g, cap, rfl, hg, own_typed h.own g rfl, fun i b hi => ?_⟩
  have := h.own.cells (g := g) rfl i (rowV n b) (by rw [List.getElem?_map, hi]; rfl)
  rwa [add_plain] at this
theorem Mat.inner {w : World} {base n : Nat} {v : Value} {rows : List Nat} {M : List (List Int)} (h : Mat w base v n rows M) {i j b : Nat} (hi : rows[i]? = some b) (hj : j < (M.getD i []).length) :
    w.cell? ⟨b, j, none⟩ = some (.int .u64 (Fw.getM M i j)) ∧ w.frozen? ⟨b, j, none⟩ = false := by
  have hb := (h.blk i b hi).2
  refine ⟨?_, by simp [World.frozen?, hb]⟩
  simp only [World.cell?, hb, rowC, Fw.getM]
  simp [List.getD_eq_getElem?_getD] at hj ⊢
  rw [List.getElem?_eq_getElem hj]
  simp

theorem setCell_block {w : World} {b j : Nat} {c : Array Value} {e : TypeId} {fr : Nat × Nat} (h : w.heap[b]? = some (.cells c e fr)) (u : Value) :
    (w.setCell ⟨b, j, none⟩ u).heap[b]? = some (.cells (c.setIfInBounds j u) e fr) := by
  simp [World.setCell, Array.getElem?_modify, h]

theorem Mat.set {w : World} {base n : Nat} {v : Value} {rows : List Nat} {M : List (List Int)} (h : Mat w base v n rows M) {i j b : Nat} (hi : rows[i]? = some b) (x : Int) :
    Mat (w.setCell ⟨b, j, none⟩ (.int .u64 x)) base v n rows (Fw.setM M i j x) := by
  have hil : i < M.length := by rw [← h.len]; exact (List.getElem?_eq_some_iff.1 hi).1
  have hbb := (h.blk i b hi).2
  refine ⟨?_, by simp [Fw.setM, h.len], h.nodup, fun i' b' hi' => ⟨(h.blk i' b' hi').1, ?_⟩⟩
  · refine own_move h.own fun k hk => Below.heap_setCell _ _ _ _ fun he => ?_
    obtain ⟨cells, hc⟩ := own_typed h.own k hk
    simp only at he
    rw [he, hbb] at hc
    cases hc
  · by_cases hbe : b' = b
    · subst hbe
      obtain rfl := h.nodup i i' b' hi hi'
      rw [setCell_block hbb]
      simp only [Fw.setM, List.getD_eq_getElem?_getD, List.getElem?_set_self hil]
      simp [rowC, List.getD_eq_getElem?_getD]
    · rw [Below.heap_setCell _ _ _ _ hbe, (h.blk i' b' hi').2]
      have hne : i ≠ i' := fun e => hbe (by subst e; rw [hi] at hi'; injection hi' with hi'; exact hi'.symm)
      simp [Fw.setM, List.getD_eq_getElem?_getD, List.getElem?_set_ne hne]
end Go.Proofs.YtcgjdljhpcjmeaaDoor
