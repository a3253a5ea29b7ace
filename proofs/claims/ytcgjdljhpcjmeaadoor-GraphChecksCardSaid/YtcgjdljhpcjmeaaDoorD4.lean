import Derived.Test.YtcgjdljhpcjmeaaDoorD1
namespace Go.Proofs.YtcgjdljhpcjmeaaDoor
open Go.RowKit Go.Proofs.YtcgjdljhpcjmeaaDoorW.PrintWords Go.Proofs.YtcgjdljhpcjmeaaDoorW.PrintMore PGraphChecks

theorem k49_take {w : World} {A : Option Addr} {n : Nat} {l : List S49} (h : Kd.C k49 w A n l) (m : Nat) (hm : m ≤ n) : Kd.C k49 w A m (l.take m) := by
  refine ⟨by rw [List.length_take, h.1]; omega, Nat.le_trans hm h.2.1, fun h0 => ?_⟩
  obtain ⟨ad, hA, hc⟩ := h.2.2 (by omega)
  refine ⟨ad, hA, fun j p hj => hc j p ?_⟩
  rw [List.getElem?_take] at hj
  split at hj
  · exact hj
  · cases hj

set_option maxHeartbeats 1000000 in
set_option maxRecDepth 100000 in
theorem few_calls (P : Int) (AE AI : Option Addr) (n m n' m' cE cI : Nat) (hn' : n' = min n 300) (hm' : m' = min m 20) (w : World) (hn : n ≤ cE) (hm : m ≤ cI) (hn2 : n ≤ 9223372036854775807) (hm2 : m ≤ 9223372036854775807) :
    Calls Tryd.prog 6 #[.agg #[.int .i64 P, .slice AE n cE, .slice AI m cI]] w fun e w' => e = .returned (.agg #[.int .i64 P, .slice AE n' cE, .slice AI m' cI]) ∧ Below w.heap.size w w' := by
  have HB0 := Asd.mk (below_al (below_al (Below.refl w.heap.size w) (.cells #[.int .i64 P, .slice AE n cE, .slice AI m cI] 25)) (.cells #[.int .i64 0, .slice none 0 0, .slice none 0 0] 25))
  have HG0 : Asd (((w.alloc (.cells #[.int .i64 P, .slice AE n cE, .slice AI m cI] 25)).alloc (.cells #[.int .i64 0, .slice none 0 0, .slice none 0 0] 25)).heap[w.heap.size]? = some (.cells #[.int .i64 P, .slice AE n cE, .slice AI m cI] 25 (0, 0))) := ⟨blk_old (blk_new rfl)⟩
  have HG1 : Asd (((w.alloc (.cells #[.int .i64 P, .slice AE n cE, .slice AI m cI] 25)).alloc (.cells #[.int .i64 0, .slice none 0 0, .slice none 0 0] 25)).heap[w.heap.size + 1]? = some (.cells #[.int .i64 0, .slice none 0 0, .slice none 0 0] 25 (0, 0))) := ⟨blk_new (by simp)⟩
  go_enter Tryd.func6, Tryd.ntmps6
  go_wp2_with fail
  have hmin1 : min (n : Int) 300 = (n' : Int) := by omega
  have hmin2 : min (m : Int) 20 = (m' : Int) := by omega
  have hle1 : n' ≤ cE := by omega
  have hle2 : m' ≤ cI := by omega
  clear hn' hm'
  have HG0d : Asd (((w.alloc (.cells #[.int .i64 P, .slice AE n cE, .slice AI m cI] 25)).alloc (.cells #[.int .i64 0, .slice none 0 0, .slice none 0 0] 25)).drew.heap[w.heap.size]? = some (.cells #[.int .i64 P, .slice AE n cE, .slice AI m cI] 25 (0, 0))) := ⟨HG0.out⟩
  have HG1d : Asd (((w.alloc (.cells #[.int .i64 P, .slice AE n cE, .slice AI m cI] 25)).alloc (.cells #[.int .i64 0, .slice none 0 0, .slice none 0 0] 25)).drew.heap[w.heap.size + 1]? = some (.cells #[.int .i64 0, .slice none 0 0, .slice none 0 0] 25 (0, 0))) := ⟨HG1.out⟩
  have HBd := Asd.mk (below_drew HB0.out)
  have c1 : ((w.alloc (.cells #[.int .i64 P, .slice AE n cE, .slice AI m cI] 25)).alloc (.cells #[.int .i64 0, .slice none 0 0, .slice none 0 0] 25)).drew.cell? ⟨w.heap.size, 1, none⟩ = some (.slice AE n cE) := blk_cell HG0.out
  have c2 : ((w.alloc (.cells #[.int .i64 P, .slice AE n cE, .slice AI m cI] 25)).alloc (.cells #[.int .i64 0, .slice none 0 0, .slice none 0 0] 25)).drew.cell? ⟨w.heap.size, 2, none⟩ = some (.slice AI m cI) := blk_cell HG0.out
  refine region_plan (fun w' => w'.cell? ⟨w.heap.size, 1, none⟩ = some (.slice AE n cE) ∧ w'.cell? ⟨w.heap.size, 2, none⟩ = some (.slice AI m cI)) [15, 17]
    [(0, 0), (1, 1), (2, 0), (3, 1), (4, 0), (5, 0), (6, 0), (7, 0), (8, 1), (9, 0), (10, 1), (11, 0), (12, 0), (13, 0), (14, 0), (15, 3), (16, 0), (17, 3)]
    (by kernel_rfl) (by kernel_rfl) (by intro _ _ d _ _ h; cases d <;> exact h) ⟨c1, c2⟩ ?_
  clear HG0 HG1 HB0
  generalize ((w.alloc (.cells #[.int .i64 P, .slice AE n cE, .slice AI m cI] 25)).alloc (.cells #[.int .i64 0, .slice none 0 0, .slice none 0 0] 25)).drew = W at *
  repeat (first
    | (refine plan_pure (v := ?_) (a' := ?_) rfl rfl (Or.inl ⟨rfl, ?_⟩) ?_ ?_
       rotate_left 2
       · intro w'
         go_simp
         with_reducible rfl
       · simp only [Act.put, List.setIfInBounds_toArray, List.set_cons_zero, List.set_cons_succ]
         rfl)
    | (refine plan_load (v := ?_) (a' := ?_) rfl rfl (Or.inl ⟨rfl, ?_⟩) ?_ ?_
       rotate_left 2
       · rintro w' ⟨s0, s1⟩
         go_simp
         with_reducible rfl
       · simp only [Act.put, List.setIfInBounds_toArray, List.set_cons_zero, List.set_cons_succ]
         rfl))
  have f1 : W.frozen? ⟨w.heap.size, 1, none⟩ = false := by simp [World.frozen?, HG0d.out]
  refine plan_store (w1 := ?_) rfl rfl rfl ?_ ?_
  rotate_left
  · go_simp
    rfl
  have HGa : Asd ((W.setCell ⟨w.heap.size, 1, none⟩ (.slice AE n' cE)).heap[w.heap.size]? = some (.cells #[.int .i64 P, .slice AE n' cE, .slice AI m cI] 25 (0, 0))) := ⟨setCell_block (j := 1) HG0d.out _⟩
  have HGb : Asd ((W.setCell ⟨w.heap.size, 1, none⟩ (.slice AE n' cE)).heap[w.heap.size + 1]? = some (.cells #[.int .i64 0, .slice none 0 0, .slice none 0 0] 25 (0, 0))) := ⟨(Below.heap_setCell W ⟨w.heap.size, 1, none⟩ _ (w.heap.size + 1) (by show w.heap.size + 1 ≠ w.heap.size; omega)).trans HG1d.out⟩
  have HBa := Asd.mk (HBd.out.setCell (p := ⟨w.heap.size, 1, none⟩) (Nat.le_refl _) (.slice AE n' cE))
  generalize W.setCell ⟨w.heap.size, 1, none⟩ (.slice AE n' cE) = W1 at *
  clear c1 c2 f1 HG0d HG1d HBd
  refine plan_pure (v := ?_) (a' := ?_) rfl rfl (Or.inl ⟨rfl, ?_⟩) ?_ ?_
  rotate_left 2
  · intro w'
    go_simp
    with_reducible rfl
  · simp only [Act.put, List.setIfInBounds_toArray, List.set_cons_zero, List.set_cons_succ]
    rfl
  have c2 : W1.cell? ⟨w.heap.size, 2, none⟩ = some (.slice AI m cI) := blk_cell HGa.out
  have f2 : W1.frozen? ⟨w.heap.size, 2, none⟩ = false := by simp [World.frozen?, HGa.out]
  refine plan_store (w1 := ?_) rfl rfl rfl ?_ ?_
  rotate_left
  · go_simp
    rfl
  refine plan_nil ?_
  have HGc : Asd ((W1.setCell ⟨w.heap.size, 2, none⟩ (.slice AI m' cI)).heap[w.heap.size]? = some (.cells #[.int .i64 P, .slice AE n' cE, .slice AI m' cI] 25 (0, 0))) := ⟨setCell_block (j := 2) HGa.out _⟩
  have HGe : Asd ((W1.setCell ⟨w.heap.size, 2, none⟩ (.slice AI m' cI)).heap[w.heap.size + 1]? = some (.cells #[.int .i64 0, .slice none 0 0, .slice none 0 0] 25 (0, 0))) := ⟨(Below.heap_setCell W1 ⟨w.heap.size, 2, none⟩ _ (w.heap.size + 1) (by show w.heap.size + 1 ≠ w.heap.size; omega)).trans HGb.out⟩
  have HBc := Asd.mk (HBa.out.setCell (p := ⟨w.heap.size, 2, none⟩) (Nat.le_refl _) (.slice AI m' cI))
  generalize W1.setCell ⟨w.heap.size, 2, none⟩ (.slice AI m' cI) = W2 at *
  clear c2 f2 HGa HGb HBa
  have d0 : W2.cell? ⟨w.heap.size, 0, none⟩ = some (.int .i64 P) := blk_cell HGc.out
  have d1 : W2.cell? ⟨w.heap.size, 1, none⟩ = some (.slice AE n' cE) := blk_cell HGc.out
  have d2 : W2.cell? ⟨w.heap.size, 2, none⟩ = some (.slice AI m' cI) := blk_cell HGc.out
  have e0 : W2.cell? ⟨w.heap.size + 1, 0, none⟩ = some (.int .i64 0) := blk_cell HGe.out
  have e1 : W2.cell? ⟨w.heap.size + 1, 1, none⟩ = some (.slice none 0 0) := blk_cell HGe.out
  have e2 : W2.cell? ⟨w.heap.size + 1, 2, none⟩ = some (.slice none 0 0) := blk_cell HGe.out
  have k0 : W2.frozen? ⟨w.heap.size + 1, 0, none⟩ = false := by simp [World.frozen?, HGe.out]
  have k1 : W2.frozen? ⟨w.heap.size + 1, 1, none⟩ = false := by simp [World.frozen?, HGe.out]
  have k2 : W2.frozen? ⟨w.heap.size + 1, 2, none⟩ = false := by simp [World.frozen?, HGe.out]
  go_wp2
  have HGz : (((W2.setCell ⟨w.heap.size + 1, 0, none⟩ (.int .i64 P)).setCell ⟨w.heap.size + 1, 1, none⟩ (.slice AE n' cE)).setCell ⟨w.heap.size + 1, 2, none⟩ (.slice AI m' cI)).heap[w.heap.size + 1]? = some (.cells #[.int .i64 P, .slice AE n' cE, .slice AI m' cI] 25 (0, 0)) :=
    setCell_block (j := 2) (setCell_block (j := 1) (setCell_block (j := 0) HGe.out _) _) _
  refine bodyPost_ret (results_cell_row rfl _ _ (w.heap.size + 1) 25 #[.int .i64 P, .slice AE n' cE, .slice AI m' cI] (0, 0) _ rfl HGz Tryd.underlying25 rfl (by kernel_rfl)) rfl ?_
  exact ⟨rfl, ((HBc.out.setCell (p := ⟨w.heap.size + 1, 0, none⟩) (Nat.le_succ _) _).setCell (p := ⟨w.heap.size + 1, 1, none⟩) (Nat.le_succ _) _).setCell (p := ⟨w.heap.size + 1, 2, none⟩) (Nat.le_succ _) _⟩
end Go.Proofs.YtcgjdljhpcjmeaaDoor

namespace Go.Proofs.YtcgjdljhpcjmeaaDoor
open Go.RowKit Go.Proofs.YtcgjdljhpcjmeaaDoorW.PrintWords Go.Proofs.YtcgjdljhpcjmeaaDoorW.PrintMore PGraphChecks

set_option maxHeartbeats 1000000 in
set_option maxRecDepth 100000 in
theorem rows_l (P : Nat) (hP : P ≤ 64) (v1 v2 : Value) (r1 r2 : List Nat) (M : List (List Int)) (hok : Fw.Ok P M) (hP1 : 1 ≤ P) (b1 b2 : Nat) (w : World) (h1 : Mat w b1 v1 P r1 M) (h2 : Mat w b2 v2 P r2 M) :
    Calls Tryd.prog 12 #[v1, v2] w fun e w' => e = .returned (.bool true) ∧ Below w.heap.size w w' := by
  have l1 : r1.length = P := by rw [h1.len, hok.len]
  have l2 : r2.length = P := by rw [h2.len, hok.len]
  obtain ⟨g1, q1, rfl, _, _, o1⟩ := h1.outer (by omega)
  obtain ⟨g2, q2, rfl, _, _, o2⟩ := h2.outer (by omega)
  rw [l1, l2]
  have HM1 := Asd.mk h1
  have HM2 := Asd.mk h2
  have HO1 := Asd.mk o1
  have HO2 := Asd.mk o2
  clear h1 h2 o1 o2
  go_enter Tryd.func12, Tryd.ntmps12
  go_wp2_with fail
  go_loopw [5] (fun v5 w' => ∃ i : Nat, i ≤ P ∧ v5 = .int .i64 i ∧ Asd (Below w.heap.size w w')) (fun v5 _ => P - (intOf v5).toNat)
  case atStart => exact ⟨0, Nat.zero_le _, rfl, ⟨Below.refl _ _⟩⟩
  case round =>
    obtain ⟨i, hi, rfl, HB⟩ := hrel
    by_cases hlt : i < P
    · have HN1 := Asd.mk (HM1.out.below HB.out)
      have HN2 := Asd.mk (HM2.out.below HB.out)
      obtain ⟨x1, hx1⟩ : ∃ b, r1[i]? = some b := ⟨_, List.getElem?_eq_getElem (by omega)⟩
      obtain ⟨x2, hx2⟩ : ∃ b, r2[i]? = some b := ⟨_, List.getElem?_eq_getElem (by omega)⟩
      have c1 : wr.cell? ⟨g1, i, none⟩ = some (.slice (some ⟨x1, 0, none⟩) P P) := cell_keep HB.out (HO1.out i x1 hx1)
      have c2 : wr.cell? ⟨g2, i, none⟩ = some (.slice (some ⟨x2, 0, none⟩) P P) := cell_keep HB.out (HO2.out i x2 hx2)
      go_wp2_with fail
      refine region_plan (fun w' => w'.cell? ⟨g1, i, none⟩ = some (.slice (some ⟨x1, 0, none⟩) P P) ∧ w'.cell? ⟨g2, i, none⟩ = some (.slice (some ⟨x2, 0, none⟩) P P)) []
        [(0, 0), (1, 0), (2, 0), (3, 1), (4, 0), (5, 0), (6, 0), (7, 0), (8, 1), (9, 0), (10, 0)]
        (by kernel_rfl) (by kernel_rfl) (by intro _ _ d _ _ h; cases d <;> exact h) ⟨c1, c2⟩ ?_
      repeat (first
        | (refine plan_pure (v := ?_) (a' := ?_) rfl rfl (Or.inl ⟨rfl, ?_⟩) ?_ ?_
           rotate_left 2
           · intro w'
             go_simp
             with_reducible rfl
           · simp only [Act.put, List.setIfInBounds_toArray, List.set_cons_zero, List.set_cons_succ]
             rfl)
        | (refine plan_load (v := ?_) (a' := ?_) rfl rfl (Or.inl ⟨rfl, ?_⟩) ?_ ?_
           rotate_left 2
           · rintro w' ⟨s0, s1⟩
             go_simp
             with_reducible rfl
           · simp only [Act.put, List.setIfInBounds_toArray, List.set_cons_zero, List.set_cons_succ]
             rfl))
      refine plan_nil ?_
      have HBd := Asd.mk (below_drew HB.out)
      clear c1 c2 HN1 HN2 HB
      generalize wr.drew = W1 at *
      go_wp2_with fail
      go_loopw [6] (fun v6 w' => ∃ j : Nat, j ≤ P ∧ v6 = .int .i64 j ∧ Asd (Below w.heap.size w w')) (fun v6 _ => P - (intOf v6).toNat)
      case atStart => exact ⟨0, Nat.zero_le _, rfl, HBd⟩
      case round =>
        clear HBd
        obtain ⟨j, hj, rfl, HB⟩ := hrel
        have c1 : wr.cell? ⟨g1, i, none⟩ = some (.slice (some ⟨x1, 0, none⟩) P P) := cell_keep HB.out (HO1.out i x1 hx1)
        have c2 : wr.cell? ⟨g2, i, none⟩ = some (.slice (some ⟨x2, 0, none⟩) P P) := cell_keep HB.out (HO2.out i x2 hx2)
        by_cases hltj : j < P
        · have n1 := ((HM1.out.below HB.out).inner hx1 (j := j) (by rw [hok.rowlen hlt]; omega)).1
          have n2 := ((HM2.out.below HB.out).inner hx2 (j := j) (by rw [hok.rowlen hlt]; omega)).1
          go_wp2_with fail
          refine region_plan (fun w' => w'.cell? ⟨g1, i, none⟩ = some (.slice (some ⟨x1, 0, none⟩) P P) ∧ w'.cell? ⟨g2, i, none⟩ = some (.slice (some ⟨x2, 0, none⟩) P P) ∧ w'.cell? ⟨x1, j, none⟩ = some (.int .u64 (Fw.getM M i j)) ∧ w'.cell? ⟨x2, j, none⟩ = some (.int .u64 (Fw.getM M i j))) []
            [(0, 0), (1, 0), (2, 0), (3, 1), (4, 0), (5, 0), (6, 1), (7, 0), (8, 0), (9, 0), (10, 1), (11, 0), (12, 0), (13, 1), (14, 0)]
            (by kernel_rfl) (by kernel_rfl) (by intro _ _ d _ _ h; cases d <;> exact h) ⟨c1, c2, n1, n2⟩ ?_
          repeat (first
            | (refine plan_pure (v := ?_) (a' := ?_) rfl rfl (Or.inl ⟨rfl, ?_⟩) ?_ ?_
               rotate_left 2
               · intro w'
                 go_simp
                 with_reducible rfl
               · simp only [Act.put, List.setIfInBounds_toArray, List.set_cons_zero, List.set_cons_succ]
                 rfl)
            | (refine plan_load (v := ?_) (a' := ?_) rfl rfl (Or.inl ⟨rfl, ?_⟩) ?_ ?_
               rotate_left 2
               · rintro w' ⟨s0, s1, s2, s3⟩
                 go_simp
                 with_reducible rfl
               · simp only [Act.put, List.setIfInBounds_toArray, List.set_cons_zero, List.set_cons_succ]
                 rfl))
          refine plan_nil ?_
          have HBd := Asd.mk (below_drew HB.out)
          go_wp2
          go_roundw
          case measure => simp [intOf]; omega
          case rel => exact ⟨j + 1, by omega, by go_num, HBd⟩
        · obtain rfl : P = j := by omega
          go_wp2
          go_roundw
          case measure => simp [intOf]; omega
          case rel => exact ⟨i + 1, by omega, by go_num, HB⟩
    · obtain rfl : P = i := by omega
      go_wp2
      go_ret
      exact ⟨rfl, HB.out⟩
end Go.Proofs.YtcgjdljhpcjmeaaDoor

namespace Go.Proofs.YtcgjdljhpcjmeaaDoor
open Go.RowKit Go.Proofs.YtcgjdljhpcjmeaaDoorW.PrintWords Go.Proofs.YtcgjdljhpcjmeaaDoorW.PrintMore PGraphChecks

theorem rows_nil (w : World) : Calls Tryd.prog 12 #[.slice none 0 0, .slice none 0 0] w fun e w' => e = .returned (.bool true) ∧ Below w.heap.size w w' := by
  go_enter Tryd.func12, Tryd.ntmps12
  go_wp2_with fail
  go_loopw [5] (fun v5 w' => v5 = .int .i64 0 ∧ w' = w) (fun _ _ => 0)
  case atStart => exact ⟨rfl, rfl⟩
  case round =>
    obtain ⟨rfl, rfl⟩ := hrel
    go_wp2
    go_ret
    exact ⟨rfl, Below.refl _ _⟩

/-- Where, as the document has it: a row of places of its own. -/
def cells80 (l : List (ByteArray × Int)) : List Value := l.flatMap fun p => [.string p.1, .int .i64 p.2]
def PlR (w : World) : List (ByteArray × Int) → Value → Prop
  | [], v => v = .slice none 0 0
  | p :: l, v => ∃ b, v = .slice (some ⟨b, 0, none⟩) (l.length + 1) (l.length + 1) ∧ w.heap[b]? = some (.cells (cells80 (p :: l)).toArray 80 (0, 0))
theorem PlR.below {w w1 : World} (hb : Below w.heap.size w w1) : ∀ {l : List (ByteArray × Int)} {v : Value}, PlR w l v → PlR w1 l v
  | [], _, h => h
  | _ :: _, _, ⟨b, e, h⟩ => ⟨b, e, blk_keep hb h⟩
def codeOf (o : Option (Int × List (ByteArray × Int))) : Int := match o with | none => 0 | some (k, _) => k
def placesOf (o : Option (Int × List (ByteArray × Int))) : List (ByteArray × Int) := match o with | none => [] | some (_, l) => l

/-- A way round through an edge that takes no time. -/
def GoodE (M : List (List Int)) (e : S78) : Prop := e.f2 = 0 ∧ Fw.getM M e.f1.toNat e.f0.toNat = 0
theorem cyc_least (M : List (List Int)) : ∀ (l : List S78) (a : Int), (∀ e ∈ l, 0 ≤ e.f0) →
    (l.foldl (cyc1 M) a = a ∨ ∃ e ∈ l, GoodE M e ∧ l.foldl (cyc1 M) a = e.f0) ∧ (∀ e ∈ l, GoodE M e → 0 ≤ l.foldl (cyc1 M) a ∧ l.foldl (cyc1 M) a ≤ e.f0) ∧ (0 ≤ a → 0 ≤ l.foldl (cyc1 M) a ∧ l.foldl (cyc1 M) a ≤ a)
  | [], a, _ => ⟨.inl rfl, fun e he => by simp at he, fun h => ⟨h, Int.le_refl _⟩⟩
  | x :: r, a, h => by
    have hx := h x (by simp)
    obtain ⟨i1, i2, i3⟩ := cyc_least M r (cyc1 M a x) (fun e he => h e (by simp [he]))
    rw [List.foldl_cons]
    generalize r.foldl (cyc1 M) (cyc1 M a x) = z at *
    by_cases hg : x.f2 = 0 ∧ Fw.getM M x.f1.toNat x.f0.toNat = 0 ∧ (a < 0 ∨ x.f0 < a)
    · have e : cyc1 M a x = x.f0 := by unfold cyc1; rw [if_pos hg]
      rw [e] at i1 i3
      obtain ⟨j1, j2⟩ := i3 hx
      refine ⟨.inr ?_, fun y hy hgy => ?_, fun h0 => ⟨j1, by omega⟩⟩
      · rcases i1 with i1 | ⟨y, hy, hgy, hz⟩
        · exact ⟨x, by simp, ⟨hg.1, hg.2.1⟩, i1⟩
        · exact ⟨y, by simp [hy], hgy, hz⟩
      · rcases List.mem_cons.1 hy with rfl | hy
        · exact ⟨j1, j2⟩
        · exact i2 y hy hgy
    · have e : cyc1 M a x = a := by unfold cyc1; rw [if_neg hg]
      rw [e] at i1 i3
      refine ⟨?_, fun y hy hgy => ?_, i3⟩
      · rcases i1 with i1 | ⟨y, hy, hgy, hz⟩
        · exact .inl i1
        · exact .inr ⟨y, by simp [hy], hgy, hz⟩
      · rcases List.mem_cons.1 hy with rfl | hy
        · have ha : ¬ (a < 0 ∨ y.f0 < a) := fun q => hg ⟨hgy.1, hgy.2, q⟩
          obtain ⟨j1, j2⟩ := i3 (by omega)
          exact ⟨j1, by omega⟩
        · exact i2 y hy hgy
theorem cycleF_at {M : List (List Int)} {l : List S78} (h : ∀ e ∈ l, 0 ≤ e.f0) {e : S78} (he : e ∈ l) (hg : GoodE M e) (hmin : ∀ y ∈ l, GoodE M y → e.f0 ≤ y.f0) : cycleF M l = e.f0 := by
  obtain ⟨i1, i2, _⟩ := cyc_least M l (-1) h
  obtain ⟨j1, j2⟩ := i2 e he hg
  unfold cycleF
  rcases i1 with i1 | ⟨y, hy, hgy, hz⟩
  · omega
  · have := hmin y hy hgy
    omega
theorem cycleF_none {M : List (List Int)} {l : List S78} (h : ∀ e ∈ l, 0 ≤ e.f0) (hn : ∀ y ∈ l, ¬ GoodE M y) : cycleF M l = -1 := by
  obtain ⟨i1, _, _⟩ := cyc_least M l (-1) h
  unfold cycleF
  rcases i1 with i1 | ⟨y, hy, hgy, _⟩
  · exact i1
  · exact absurd hgy (hn y hy)
end Go.Proofs.YtcgjdljhpcjmeaaDoor
