import Derived.Test.YtcgjdljhpcjmeaaDoorC0
import Derived.Test.YtcgjdljhpcjmeaaDoorPGraphChecksx2
namespace Go.Proofs.YtcgjdljhpcjmeaaDoor
open Go.RowKit Go.Proofs.YtcgjdljhpcjmeaaDoorW.PrintWords Go.Proofs.YtcgjdljhpcjmeaaDoorW.PrintMore PGraphChecks

def cells49 (es : List S49) : List Value := es.flatMap fun e => [.int .i64 e.f0, .int .i64 e.f1, .int .u64 e.f2]
theorem roundE_succ (k i : Nat) : roundE k (i + 1) = roundE k i ++ [round1 k i] := by simp [roundE, List.range_succ]
theorem roundE_len (k i : Nat) : (roundE k i).length = i := by simp [roundE]
theorem cells49_snoc (es : List S49) (e : S49) : cells49 (es ++ [e]) = cells49 es ++ [.int .i64 e.f0, .int .i64 e.f1, .int .u64 e.f2] := by simp [cells49]

theorem cells49_at : ∀ (es : List S49) (j : Nat) (e : S49), es[j]? = some e → (cells49 es)[j * 3]? = some (.int .i64 e.f0) ∧ (cells49 es)[j * 3 + 1]? = some (.int .i64 e.f1) ∧ (cells49 es)[j * 3 + 2]? = some (.int .u64 e.f2)
  | [], j, e, h => by simp at h
  | x :: r, 0, e, h => by
    obtain rfl : x = e := by simpa using h
    exact ⟨rfl, rfl, rfl⟩
  | x :: r, j + 1, e, h => by
    have ih := cells49_at r j e (by simpa using h)
    have e1 : (j + 1) * 3 = j * 3 + 3 := by omega
    rw [e1]
    exact ih
theorem C49_of_own {w : World} {base n c : Nat} {A : Option Addr} {es : List S49} (h : w.ownsRow base 49 3 (.slice A n c) n (cells49 es)) (hn : es.length = n) (hp : 0 < n) (hl : n ≤ 9223372036854775807) : Kd.C k49 w A n es ∧ n ≤ c := by
  obtain ⟨g, cap, hv, _, _⟩ := h.form hp
  cases hv
  have hle : n ≤ c := by
    rcases h.2 with ⟨hv', _⟩ | ⟨g', cap', cur, hv', _, _, hle, _⟩
    · cases hv'
    · cases hv'; exact hle
  refine ⟨⟨hn, hl, fun _ => ⟨⟨g, 0, none⟩, rfl, fun j e hj => ⟨[.int .i64 e.f0, .int .i64 e.f1, .int .u64 e.f2], rfl, k49_mk w e, fun i u hu => ?_⟩⟩⟩, hle⟩
  obtain ⟨h0, h1, h2⟩ := cells49_at es j e hj
  have hi : i < 3 := by have := (List.getElem?_eq_some_iff.1 hu).1; simpa using this
  have hc := fun u hu => h.cells (g := g) rfl (j * 3 + i) u hu
  show w.cell? ((⟨g, 0, none⟩ : Addr).add (j * 3 + i)) = some u
  refine hc u ?_
  rcases (show i = 0 ∨ i = 1 ∨ i = 2 by omega) with rfl | rfl | rfl
  · cases hu; exact h0
  · cases hu; exact h1
  · cases hu; exact h2

theorem to_l0 (P0 P : Int) (es : List S49) (ins0 ins : List Int) (hl : es.length ≤ 1000000) : ∀ (d i : Nat), es.length - i = d → i ≤ es.length →
    marchlandlaw05_To.l0 (d + 1) (i : Int) P0 es ins0 P ((es.take i).map conv) ins = some (P, es.map conv, ins)
  | 0, i, hd, hi => by
    rw [marchlandlaw05_To.l0, if_neg (by omega), List.take_of_length_le (by omega)]
  | d + 1, i, hd, hi => by
    have hlt : i < es.length := by omega
    have hrd : rd_T49 es (i : Int) = es[i] := by simp [rd_T49, List.getD_eq_getElem?_getD, List.getElem?_eq_getElem hlt]
    have hw : wrap64 ((i : Int) + 1) = ((i + 1 : Nat) : Int) := by unfold wrap64; omega
    have ih := to_l0 P0 P es ins0 ins hl d (i + 1) (by omega) (by omega)
    rw [marchlandlaw05_To.l0, if_pos (by omega), if_pos (by omega), if_pos (by simp; omega), hrd, hw]
    have e : (es.take (i + 1)).map conv = (es.take i).map conv ++ [conv es[i]] := by rw [List.take_add_one, List.getElem?_eq_getElem hlt, List.map_append]; rfl
    rw [e] at ih
    exact ih
theorem to_f (P : Int) (es : List S49) (ins : List Int) (hl : es.length ≤ 1000000) (hi : ins.length ≤ 1000000) : marchlandlaw05_To.f (es.length + 1) P es ins = some (P, es.map conv, ins) := by
  unfold marchlandlaw05_To.f
  rw [Option.bind_some, if_pos (by simp; omega)]
  exact to_l0 P P es ins ins hl es.length 0 rfl (Nat.zero_le _)

theorem to_calls (P : Int) (A1 A2 : Option Addr) (n m c1 c2 : Nat) (es : List S49) (ins : List Int) (w : World) (hn : es.length = n) (hm : ins.length = m) (hE : Kd.C k49 w A1 n es) (h1 : n ≤ c1) (hI : Kd.C (Kd.int .i64) w A2 m ins) (h2 : m ≤ c2) (hl : n ≤ 1000000) (hi : m ≤ 1000000) :
    Calls Tryd.prog 8 #[.agg #[.int .i64 P, .slice A1 n c1, .slice A2 m c2]] w fun e w' => ∃ B1 B2 d1 d2, e = .returned (.agg #[.int .i64 P, .slice B1 n d1, .slice B2 m d2]) ∧
      Kd.C k78 w' B1 n (es.map conv) ∧ n ≤ d1 ∧ Kd.C (Kd.int .i64) w' B2 m ins ∧ m ≤ d2 ∧ Below w.heap.size w w' := by
  subst hn; subst hm
  refine (marchlandlaw05_To.calls (es.length + 1) P A1 c1 es A2 c2 ins P (es.map conv) ins w hE h1 hI h2 (to_f _ _ _ hl hi)).mono ?_
  rintro e w1 ⟨v1, v2, rfl, r1, r2, hb⟩
  obtain ⟨B1, d1, rfl, hd1, hc1⟩ := Kd.R_reads r1
  obtain ⟨B2, d2, rfl, hd2, hc2⟩ := Kd.R_reads r2
  rw [List.length_map] at hd1 hc1
  exact ⟨B1, B2, d1, d2, by rw [List.length_map], hc1, hd1, hc2, hd2, hb⟩
theorem check_n (P : Int) (AE AI : Option Addr) (n m cE cI : Nat) (es : List S78) (ins : List Int) (w : World) (hn : es.length = n) (hm : ins.length = m) (hE : Kd.C k78 w AE n es) (hcE : n ≤ cE) (hI : Kd.C (Kd.int .i64) w AI m ins) (hcI : m ≤ cI) (ha : EAdd es) :
    Calls Tryd.prog 7 #[.agg #[.int .i64 P, .slice AE n cE, .slice AI m cI]] w fun e w' => ∃ v, e = .returned v ∧ ErrO w' (checkE P es ins) v ∧ Below w.heap.size w w' := by
  subst hn; subst hm
  exact check_calls P AE AI cE cI es ins w hE hcE hI hcI ha
theorem paths_n (P : Int) (AE AI : Option Addr) (n m cE cI : Nat) (es : List S78) (ins : List Int) (w : World) (hn : es.length = n) (hm : ins.length = m) (hE : Kd.C k78 w AE n es) (hcE : n ≤ cE) (hI : Kd.C (Kd.int .i64) w AI m ins) (hcI : m ≤ cI) (ha : EAdd es) :
    Calls Tryd.prog 13 #[.agg #[.int .i64 P, .slice AE n cE, .slice AI m cI]] w fun e w' => ∃ v, e = .returned v ∧ PathsO w' w.heap.size P es ins v ∧ Below w.heap.size w w' := by
  subst hn; subst hm
  exact paths_calls P AE AI cE cI es ins w hE hcE hI hcI ha
theorem own_cell_set {w : World} {base n c g : Nat} {e : TypeId} {size : Nat} {xs : List Value} (h : w.ownsRow base e size (.slice (some ⟨g, 0, none⟩) n c) n xs) (j : Nat) (u : Value) : (w.setCell ⟨g, j, none⟩ u).ownsRow base e size (.slice (some ⟨g, 0, none⟩) n c) n (xs.set j u) := by
  refine ⟨by rw [List.length_set, h.1], ?_⟩
  rcases h.2 with ⟨hv, _⟩ | ⟨g', cap', cur, hv, hb, hh, h1, h2, h3, h4⟩
  · cases hv
  · cases hv
    refine .inr ⟨g, c, cur.setIfInBounds j u, rfl, hb, setCell_block hh u, h1, h2, by simpa using h3, ?_⟩
    rw [Array.toList_setIfInBounds, ← h4, List.take_set]
theorem cells49_set : ∀ (es : List S49) (a : Nat) (e : S49), es[a]? = some e → (cells49 es).set (a * 3 + 2) (.int .u64 1) = cells49 (es.set a ⟨e.f0, e.f1, 1⟩)
  | [], a, e, h => by simp at h
  | x :: r, 0, e, h => by
    obtain rfl : x = e := by simpa using h
    rfl
  | x :: r, a + 1, e, h => by
    have ih := cells49_set r a e (by simpa using h)
    have e1 : (a + 1) * 3 + 2 = a * 3 + 2 + 3 := by omega
    rw [e1]
    show [.int .i64 x.f0, .int .i64 x.f1, .int .u64 x.f2] ++ (cells49 r).set (a * 3 + 2) (.int .u64 1) = _
    rw [ih]
    rfl

set_option maxHeartbeats 1000000 in
set_option maxRecDepth 100000 in
theorem cycles_calls (n at' : Int) (w : World) (hl : Laid w) (hn0 : -9223372036854775808 ≤ n) (hn1 : n ≤ 9223372036854775807) (ha0 : -9223372036854775808 ≤ at') (ha1 : at' ≤ 9223372036854775807) :
    Calls Tryd.prog 4 #[.int .i64 n, .int .i64 at'] w fun e w' => e = .returned (.bool true) ∧ Below w.heap.size w w' := by
  have HL := Asd.mk hl
  clear hl
  obtain ⟨m, hm, hm9⟩ : ∃ m : Nat, (IntKind.u64.wrap n).tmod 9 = (m : Int) ∧ m < 9 := by
    have h0 : 0 ≤ IntKind.u64.wrap n := by show 0 ≤ n % 18446744073709551616; omega
    refine ⟨((IntKind.u64.wrap n) % 9).toNat, ?_, by omega⟩
    rw [Int.tmod_eq_emod_of_nonneg h0]; omega
  obtain ⟨k, hk⟩ : ∃ k : Nat, k = m + 1 := ⟨_, rfl⟩
  have hk1 : (1 : Int) + m = (k : Int) := by omega
  have hk2 : 1 ≤ k ∧ k ≤ 9 := by omega
  obtain ⟨hk3, hk4⟩ := hk2
  clear hk
  go_enter Tryd.func4, Tryd.ntmps4
  go_wp2_with fail
  have HB0 := Asd.mk (below_al (below_al (Below.refl w.heap.size w) (.cells #[.int .i64 0] 3)) (.cells #[.int .i64 (↑k + 2), .slice none 0 0, .slice (some ⟨w.heap.size, 0, none⟩) 1 1] 25))
  have HI0 : Asd (((w.alloc (.cells #[.int .i64 0] 3)).alloc (.cells #[.int .i64 (↑k + 2), .slice none 0 0, .slice (some ⟨w.heap.size, 0, none⟩) 1 1] 25)).heap[w.heap.size]? = some (.cells (([0] : List Int).map (Value.int .i64)).toArray 3 (0, 0))) := ⟨blk_old (blk_new rfl)⟩
  have HG0 : Asd (((w.alloc (.cells #[.int .i64 0] 3)).alloc (.cells #[.int .i64 (↑k + 2), .slice none 0 0, .slice (some ⟨w.heap.size, 0, none⟩) 1 1] 25)).heap[w.heap.size + 1]? = some (.cells #[.int .i64 (↑k + 2), .slice none 0 0, .slice (some ⟨w.heap.size, 0, none⟩) 1 1] 25 (0, 0))) := ⟨blk_new (by simp)⟩
  have HZ0 : Asd (((w.alloc (.cells #[.int .i64 0] 3)).alloc (.cells #[.int .i64 (↑k + 2), .slice none 0 0, .slice (some ⟨w.heap.size, 0, none⟩) 1 1] 25)).heap.size = w.heap.size + 2) := ⟨by simp⟩
  generalize ((w.alloc (.cells #[.int .i64 0] 3)).alloc (.cells #[.int .i64 (↑k + 2), .slice none 0 0, .slice (some ⟨w.heap.size, 0, none⟩) 1 1] 25)) = W0 at *
  go_loopw [7] (fun v7 w' => ∃ (i : Nat) (v : Value), i ≤ k ∧ v7 = .int .i64 i ∧ Asd (Below w.heap.size w w') ∧ Asd (w'.heap[w.heap.size]? = some (.cells (([0] : List Int).map (Value.int .i64)).toArray 3 (0, 0))) ∧
    Asd (w'.heap[w.heap.size + 1]? = some (.cells #[.int .i64 (↑k + 2), v, .slice (some ⟨w.heap.size, 0, none⟩) 1 1] 25 (0, 0))) ∧ Asd (w'.ownsRow (w.heap.size + 2) 49 3 v i (cells49 (roundE k i)))) (fun v7 _ => k - (intOf v7).toNat)
  case atStart => exact ⟨0, _, Nat.zero_le _, rfl, HB0, HI0, HG0, ⟨own_nil _ _ _ _⟩⟩
  case round =>
    clear HI0 HG0 HB0 HZ0
    obtain ⟨i, v, hi, rfl, HB, HI, HG, HO⟩ := hrel
    by_cases hlt : i < k
    · go_wp2_with fail
      have HBd : Asd (Below w.heap.size w wr.drew) := ⟨below_drew HB.out⟩
      have HId : Asd (wr.drew.heap[w.heap.size]? = some (.cells (([0] : List Int).map (Value.int .i64)).toArray 3 (0, 0))) := ⟨HI.out⟩
      have HGd : Asd (wr.drew.heap[w.heap.size + 1]? = some (.cells #[.int .i64 (↑k + 2), v, .slice (some ⟨w.heap.size, 0, none⟩) 1 1] 25 (0, 0))) := ⟨HG.out⟩
      have HOd : Asd (wr.drew.ownsRow (w.heap.size + 2) 49 3 v i (cells49 (roundE k i))) := ⟨HO.out⟩
      obtain ⟨r, hr⟩ : ∃ r : Nat, r = (i + 1) % k := ⟨_, rfl⟩
      have hr9 : r < k := by rw [hr]; exact Nat.mod_lt _ (by omega)
      have hw1 : IntKind.i64.wrap (1 + (i : Int)) = 1 + (i : Int) := IntWalk.i64_in _ (by omega)
      have hw2 : IntKind.i64.wrap ((i : Int) + 1) = (i : Int) + 1 := IntWalk.i64_in _ (by omega)
      have hw3 : ((i : Int) + 1).tmod (k : Int) = (r : Int) := by
        rw [Int.tmod_eq_emod_of_nonneg (by omega), hr, Int.natCast_emod]; rfl
      have hw4 : IntKind.i64.wrap (r : Int) = (r : Int) := IntWalk.i64_in _ (by omega)
      have hw5 : IntKind.i64.wrap (1 + (r : Int)) = 1 + (r : Int) := IntWalk.i64_in _ (by omega)
      have hw6 : ¬ k = 0 := by omega
      have HR := Asd.mk hr
      clear hr
      refine region_plan (fun w' => w'.cell? ⟨w.heap.size + 1, 1, none⟩ = some v) [13]
        [(0, 0), (1, 1), (2, 0), (3, 0), (4, 0), (5, 0), (6, 0), (7, 0), (8, 0), (9, 0), (10, 2), (11, 2), (12, 0), (13, 3)]
        (by kernel_rfl) (by kernel_rfl) (by intro _ _ d _ _ h; cases d <;> exact h) (blk_cell HGd.out) ?_
      generalize wr.drew = W at *
      repeat (first
        | (refine plan_pure (v := ?_) (a' := ?_) rfl rfl (Or.inl ⟨rfl, ?_⟩) ?_ ?_
           rotate_left 2
           · intro w'
             go_simp
             with_reducible rfl
           · simp only [Act.put, List.setIfInBounds_toArray, List.set_cons_zero, List.set_cons_succ]
             rfl)
        | (refine plan_load (v := ?_) (a' := ?_) rfl rfl (Or.inl ⟨rfl, ?_⟩) ?_ ?_
           rotate_left 2
           · intro w' s0
             go_simp
             with_reducible rfl
           · simp only [Act.put, List.setIfInBounds_toArray, List.set_cons_zero, List.set_cons_succ]
             rfl))
      refine plan_value (w1 := ?_) (v := ?_) (a' := ?_) (by rfl) (by rfl) (by rfl) ?_ ?_ ?_ ?_
      rotate_left 3
      · go_simp
        constructor
        · rfl
        · rfl
      · exact cell_keep (below_al (Below.refl W.heap.size W) _) (show W.cell? ⟨w.heap.size + 1, 1, none⟩ = some v from blk_cell HGd.out)
      · simp only [Act.put, List.setIfInBounds_toArray, List.set_cons_zero, List.set_cons_succ]
        rfl
      refine plan_eff rfl fun K hK => ?_
      unfold OpWp
      refine step_append_cells (w0 := W) (w.heap.size + 2) (by rfl) (.tmp 25) (.tmp 34) 22 49 (.agg #[.int .i64 0, .int .i64 0, .int .u64 0]) 3 24 rfl Tryd.underlying22 info49 rfl (by decide) (by decide) v i (cells49 (roundE k i)) [.int .i64 (1 + i), .int .i64 (1 + r), .int .u64 0] rfl rfl rfl ?c1 HOd.out ?c2 ?c3 ?c4 ?_
      case c1 => intro u hu; simp at hu; rcases hu with rfl | rfl | rfl <;> rfl
      case c2 => exact Below.refl _ _
      case c3 => have := (Array.getElem?_eq_some_iff.1 HGd.out).1; omega
      case c4 => omega
      intro v1 w1 ho hb hg hat
      obtain ⟨A1, q1, rfl⟩ := own_slice ho
      have HG1 := Asd.mk ((hb.block _ (by omega)).trans HGd.out)
      have HI1 := Asd.mk ((hb.block _ (by omega)).trans HId.out)
      have HO1 : Asd (w1.ownsRow (w.heap.size + 2) 49 3 (.slice A1 (i + 1) q1) (i + 1) (cells49 (roundE k (i + 1)))) := ⟨by
        rw [roundE_succ, cells49_snoc]
        have e1 : (round1 k i).f1 = 1 + (r : Int) := by rw [HR.out]; rfl
        rw [e1]
        exact ho⟩
      have HB1 := Asd.mk (HBd.out.trans (hb.mono (by omega)))
      clear ho hb hg hat
      refine hK.out _ _ (show w1.cell? ⟨w.heap.size + 1, 1, none⟩ = some v from blk_cell HG1.out) ?_
      clear hK K
      refine plan_norm (a' := ?_) ?_ ?_
      rotate_left
      · show Act.put _ (some 35) _ = _
        simp only [Act.put, List.setIfInBounds_toArray, List.set_cons_zero, List.set_cons_succ]
        rfl
      refine plan_pure (v := ?_) (a' := ?_) rfl rfl (Or.inl ⟨rfl, ?_⟩) ?_ ?_
      rotate_left 2
      · intro w'
        go_simp
        with_reducible rfl
      · simp only [Act.put, List.setIfInBounds_toArray, List.set_cons_zero, List.set_cons_succ]
        rfl
      have hc1 : w1.cell? ⟨w.heap.size + 1, 1, none⟩ = some v := blk_cell HG1.out
      have hf1 : w1.frozen? ⟨w.heap.size + 1, 1, none⟩ = false := by simp [World.frozen?, HG1.out]
      refine plan_store (w1 := ?_) rfl rfl rfl ?_ ?_
      rotate_left
      · go_simp
        rfl
      refine plan_nil ?_
      have HG2 : Asd ((w1.setCell ⟨w.heap.size + 1, 1, none⟩ (.slice A1 (i + 1) q1)).heap[w.heap.size + 1]? = some (.cells #[.int .i64 (↑k + 2), .slice A1 (i + 1) q1, .slice (some ⟨w.heap.size, 0, none⟩) 1 1] 25 (0, 0))) := ⟨setCell_block (j := 1) HG1.out _⟩
      have HI2 := Asd.mk ((Below.heap_setCell w1 ⟨w.heap.size + 1, 1, none⟩ (.slice A1 (i + 1) q1) w.heap.size (by show w.heap.size ≠ w.heap.size + 1; omega)).trans HI1.out)
      have HB2 := Asd.mk (HB1.out.setCell (p := ⟨w.heap.size + 1, 1, none⟩) (by show w.heap.size ≤ w.heap.size + 1; omega) (.slice A1 (i + 1) q1))
      have HO2 : Asd ((w1.setCell ⟨w.heap.size + 1, 1, none⟩ (.slice A1 (i + 1) q1)).ownsRow (w.heap.size + 2) 49 3 (.slice A1 (i + 1) q1) (i + 1) (cells49 (roundE k (i + 1)))) :=
        ⟨ownsRow_setCell_below HO1.out (by show w.heap.size + 1 < w.heap.size + 2; omega) _⟩
      clear hc1 hf1
      go_wp2
      go_roundw
      case measure => simp [intOf]; omega
      case rel => exact ⟨i + 1, .slice A1 (i + 1) q1, by omega, by go_num, HB2, HI2, HG2, HO2⟩
    · obtain rfl : k = i := by omega
      have h0 : wr.cell? ⟨w.heap.size + 1, 0, none⟩ = some (.int .i64 (↑k + 2)) := blk_cell HG.out
      have h1 : wr.cell? ⟨w.heap.size + 1, 1, none⟩ = some v := blk_cell HG.out
      have h2 : wr.cell? ⟨w.heap.size + 1, 2, none⟩ = some (.slice (some ⟨w.heap.size, 0, none⟩) 1 1) := blk_cell HG.out
      obtain ⟨g, q, rfl, hgb, _⟩ := HO.out.form (by omega)
      have HGB := Asd.mk hgb
      obtain ⟨kC, kc⟩ := C49_of_own HO.out (roundE_len k k) (by omega) (by omega)
      have KC := Asd.mk kC
      have Kc := Asd.mk kc
      have KI := Asd.mk (Cint_of_block (k := .i64) (l := [0]) HI.out (by decide))
      clear hgb kC kc
      go_wp2_with fail
      have T1 := (to_calls (↑k + 2) (some ⟨g, 0, none⟩) (some ⟨w.heap.size, 0, none⟩) k 1 q 1 (roundE k k) [0] wr (roundE_len k k) rfl KC.out Kc.out KI.out (by omega) (by omega) (by omega))
      refine T1.mono ?_
      clear T1
      rintro e w1 ⟨B1, B2, d1, d2, rfl, hc1, hd1, hc2, hd2, hb⟩
      have X1 := Asd.mk hc1
      have X2 := Asd.mk hd1
      have X3 := Asd.mk hc2
      have X4 := Asd.mk hd2
      have HB1 := Asd.mk hb
      clear hc1 hd1 hc2 hd2 hb h0 h1 h2
      have HA1 : Asd (EAdd ((roundE k k).map conv)) := ⟨by
        intro e he
        obtain ⟨y, hy, rfl⟩ := List.mem_map.1 he
        obtain ⟨j, _, rfl⟩ := List.mem_map.1 hy
        simp [conv, round1, Fw.never]⟩
      go_wp2_with fail
      have T1 := (check_n (↑k + 2) B1 B2 k 1 d1 d2 ((roundE k k).map conv) [0] w1 (by rw [List.length_map, roundE_len]) rfl X1.out X2.out X3.out X4.out HA1.out)
      refine T1.mono ?_
      clear T1
      rintro e w2 ⟨v8, rfl, hv, hb⟩
      rw [round_cycle k (by omega) (by omega)] at hv
      have HV := Asd.mk hv
      have HB2 := Asd.mk (HB1.out.trans (hb.mono HB1.out.size))
      clear hv hb X1 X2 X3 X4 HA1 KC KI
      have HG2 := Asd.mk (blk_keep HB2.out HG.out)
      have HI2 := Asd.mk (blk_keep HB2.out HI.out)
      have HO2 := Asd.mk (pw_own_below HO.out HB2.out)
      have HBw := Asd.mk (HB.out.trans (HB2.out.mono HB.out.size))
      go_wp2_with fail
      have hwk : IntKind.u64.wrap (k : Int) = (k : Int) := by show (k : Int) % 18446744073709551616 = k; omega
      obtain ⟨a, ha, hak⟩ : ∃ a : Nat, (IntKind.u64.wrap at').tmod (k : Int) = (a : Int) ∧ a < k := by
        have h0 : 0 ≤ IntKind.u64.wrap at' := by show 0 ≤ at' % 18446744073709551616; omega
        obtain ⟨b, hb⟩ := Int.eq_ofNat_of_zero_le h0
        refine ⟨b % k, ?_, Nat.mod_lt _ (by omega)⟩
        rw [hb, Int.tmod_eq_emod_of_nonneg (by omega), Int.natCast_emod]
      have hwa : IntKind.i64.wrap (a : Int) = (a : Int) := IntWalk.i64_in _ (by omega)
      have hwa2 : IntKind.u64.wrap (a : Int) = (a : Int) := by show (a : Int) % 18446744073709551616 = a; omega
      have i1 : (0 : Int) ≤ (a : Int) := by omega
      have i2 : (a : Int) < (k : Int) := by omega
      have hk0 : ¬ k = 0 := by omega
      obtain ⟨cur, hcur⟩ := own_typed HO2.out g rfl
      have hgc : w2.cell? ⟨g, a * 3 + 2, none⟩ = some (.int .u64 0) := by
        have hlt : a < (roundE k k).length := by rw [roundE_len]; exact hak
        have hx : (roundE k k)[a]? = some (round1 k a) := by simp [roundE, List.getElem?_map, hak]
        have := HO2.out.cells (g := g) rfl (a * 3 + 2) _ (cells49_at _ a _ hx).2.2
        rwa [add_plain] at this
      have hgf : w2.frozen? ⟨g, a * 3 + 2, none⟩ = false := by simp [World.frozen?, hcur]
      refine region_plan (fun w' => w'.cell? ⟨w.heap.size + 1, 1, none⟩ = some (.slice (some ⟨g, 0, none⟩) k q)) [10]
        [(0, 0), (1, 1), (2, 0), (3, 0), (4, 0), (5, 0), (6, 0), (7, 0), (8, 0), (9, 0), (10, 3)]
        (by kernel_rfl) (by kernel_rfl) (by intro _ _ d _ _ h; cases d <;> exact h) (show w2.drew.cell? ⟨w.heap.size + 1, 1, none⟩ = some (.slice (some ⟨g, 0, none⟩) k q) from blk_cell HG2.out) ?_
      repeat (first
        | (refine plan_pure (v := ?_) (a' := ?_) rfl rfl (Or.inl ⟨rfl, ?_⟩) ?_ ?_
           rotate_left 2
           · intro w'
             go_simp
             with_reducible rfl
           · simp only [Act.put, List.setIfInBounds_toArray, List.set_cons_zero, List.set_cons_succ]
             rfl)
        | (refine plan_load (v := ?_) (a' := ?_) rfl rfl (Or.inl ⟨rfl, ?_⟩) ?_ ?_
           rotate_left 2
           · intro w' s0
             go_simp
             with_reducible rfl
           · simp only [Act.put, List.setIfInBounds_toArray, List.set_cons_zero, List.set_cons_succ]
             rfl))
      refine plan_store (w1 := ?_) rfl rfl rfl ?_ ?_
      rotate_left
      · go_simp
        rfl
      refine plan_nil ?_
      have HO3 : Asd ((w2.setCell ⟨g, a * 3 + 2, none⟩ (.int .u64 1)).drew.ownsRow (w.heap.size + 2) 49 3 (.slice (some ⟨g, 0, none⟩) k q) k (cells49 (round2 k a))) := ⟨by
        have hx : (roundE k k)[a]? = some (round1 k a) := by simp [roundE, List.getElem?_map, hak]
        have h := own_cell_set HO2.out (a * 3 + 2) (.int .u64 1)
        rw [cells49_set _ _ _ hx] at h
        exact h⟩
      have HG3 : Asd ((w2.setCell ⟨g, a * 3 + 2, none⟩ (.int .u64 1)).drew.heap[w.heap.size + 1]? = some (.cells #[.int .i64 (↑k + 2), .slice (some ⟨g, 0, none⟩) k q, .slice (some ⟨w.heap.size, 0, none⟩) 1 1] 25 (0, 0))) :=
        ⟨(Below.heap_setCell w2 ⟨g, a * 3 + 2, none⟩ (.int .u64 1) (w.heap.size + 1) (by have := HGB.out; show w.heap.size + 1 ≠ g; omega)).trans HG2.out⟩
      have HI3 : Asd ((w2.setCell ⟨g, a * 3 + 2, none⟩ (.int .u64 1)).drew.heap[w.heap.size]? = some (.cells (([0] : List Int).map (Value.int .i64)).toArray 3 (0, 0))) :=
        ⟨(Below.heap_setCell w2 ⟨g, a * 3 + 2, none⟩ (.int .u64 1) w.heap.size (by have := HGB.out; show w.heap.size ≠ g; omega)).trans HI2.out⟩
      have HB3 : Asd (Below w.heap.size w (w2.setCell ⟨g, a * 3 + 2, none⟩ (.int .u64 1)).drew) := ⟨below_drew (HBw.out.setCell (by have := HGB.out; show w.heap.size ≤ g; omega) _)⟩
      have HV3 : Asd (ErrAt (w2.setCell ⟨g, a * 3 + 2, none⟩ (.int .u64 1)).drew 3 [(bPort, 1)] v8) := ⟨by
        obtain ⟨b, inner, e8, q0, q1, q2, q3⟩ := HV.out
        have hk1'' : 0 < k := Nat.lt_of_le_of_lt (Nat.zero_le _) hak
        have hx0 : (roundE k k)[0]? = some (round1 k 0) := by simp [roundE, List.getElem?_map, hk1'']
        have hz := HO2.out.cells (g := g) rfl (0 * 3) _ (cells49_at _ 0 _ hx0).1
        have hbg : b ≠ g := by
          rintro rfl
          rw [show ((⟨b, 0, none⟩ : Addr).add (0 * 3)) = ⟨b, 0, none⟩ from add_plain _ _] at hz
          rw [q0] at hz
          cases hz
        have hs : ∀ i u, w2.cell? ⟨b, i, none⟩ = some u → (w2.setCell ⟨g, a * 3 + 2, none⟩ (.int .u64 1)).drew.cell? ⟨b, i, none⟩ = some u := fun i u hu => by
          show (w2.setCell ⟨g, a * 3 + 2, none⟩ (.int .u64 1)).cell? ⟨b, i, none⟩ = some u
          rw [← hu]
          unfold World.cell?
          rw [Below.heap_setCell w2 ⟨g, a * 3 + 2, none⟩ (.int .u64 1) b hbg]
        exact ⟨b, inner, e8, hs _ _ q0, hs _ _ q1, hs _ _ q2, q3⟩⟩
      have HAK : Asd (a < k) := ⟨hak⟩
      have H99 := Asd.mk (show k < 10 by omega)
      have hk1' : (0 : Nat) < k := by omega
      clear hgc hgf hcur ha hak hwa hwa2 hwk i1 i2 hk0 HO2 HG2 HI2 HBw HV
      generalize (w2.setCell ⟨g, a * 3 + 2, none⟩ (.int .u64 1)).drew = W at *
      have KI := Asd.mk (Cint_of_block (k := .i64) (l := [0]) HI3.out (by decide))
      have hlr : (round2 k a).length = k := by rw [round2, List.length_set, roundE_len]
      obtain ⟨kC, kc⟩ := C49_of_own HO3.out hlr hk1' (by omega)
      have KC := Asd.mk kC
      have Kc := Asd.mk kc
      clear kC kc
      have HLR := Asd.mk hlr
      have HA1 : Asd (EAdd ((round2 k a).map conv)) := ⟨by
        intro e he
        obtain ⟨y, hy, rfl⟩ := List.mem_map.1 he
        rcases List.mem_or_eq_of_mem_set hy with hy | rfl
        · obtain ⟨j, _, rfl⟩ := List.mem_map.1 hy
          simp [conv, round1, Fw.never]
        · simp [conv, Fw.never]⟩
      clear hlr
      have h0 : W.cell? ⟨w.heap.size + 1, 0, none⟩ = some (.int .i64 (↑k + 2)) := blk_cell HG3.out
      have h1 : W.cell? ⟨w.heap.size + 1, 1, none⟩ = some (.slice (some ⟨g, 0, none⟩) k q) := blk_cell HG3.out
      have h2 : W.cell? ⟨w.heap.size + 1, 2, none⟩ = some (.slice (some ⟨w.heap.size, 0, none⟩) 1 1) := blk_cell HG3.out
      go_wp2_with fail
      have T1 := (to_calls (↑k + 2) (some ⟨g, 0, none⟩) (some ⟨w.heap.size, 0, none⟩) k 1 q 1 (round2 k a) [0] W HLR.out rfl KC.out Kc.out KI.out (by omega) (by omega) (by omega))
      refine T1.mono ?_
      clear T1 h0 h1 h2
      rintro e w3 ⟨B3, B4, d3, d4, rfl, hc1, hd1, hc2, hd2, hb⟩
      have X1 := Asd.mk hc1
      have X2 := Asd.mk hd1
      have X3 := Asd.mk hc2
      have X4 := Asd.mk hd2
      have HB4 := Asd.mk hb
      clear hc1 hd1 hc2 hd2 hb
      go_wp2_with fail
      have T1 := (paths_n (↑k + 2) B3 B4 k 1 d3 d4 ((round2 k a).map conv) [0] w3 (by rw [List.length_map, HLR.out]) rfl X1.out X2.out X3.out X4.out HA1.out)
      refine T1.mono ?_
      clear T1
      rintro e w4 ⟨v9, rfl, hp, hb⟩
      have HB5 := Asd.mk (HB4.out.trans (hb.mono HB4.out.size))
      have hv9 : ∃ A c, v9 = .slice A (k + 2) c := by
        unfold PathsO at hp
        rw [if_pos (round_none k H99.out a HAK.out)] at hp
        obtain ⟨rows, hm⟩ := hp
        obtain ⟨_, _, hed⟩ := checkE_none (round_none k H99.out a HAK.out)
        have e2 : ((k : Int) + 2).toNat = k + 2 := by omega
        rw [e2] at hm
        have e3 : ((k : Int) + 2) = ((k + 2 : Nat) : Int) := by omega
        rw [e3] at hed
        have hin := EIn_of hed HA1.out
        have hok : Fw.Ok (k + 2) (Fw.ways (k + 2) (esOf ((round2 k a).map conv))) := Fw.ways_ok (by
          intro e he
          obtain ⟨y, hy, rfl⟩ := List.mem_map.1 he
          have := hin y hy
          refine ⟨?_, ?_, this.2.2.2.2.1, this.2.2.2.2.2⟩ <;> simp only <;> omega)
        have hlen : rows.length = k + 2 := by rw [hm.len, hok.len]
        obtain ⟨g9, cap, e9, _⟩ := hm.outer (by omega)
        rw [hlen] at e9
        exact ⟨_, _, e9⟩
      obtain ⟨A9, c9, rfl⟩ := hv9
      clear hp X1 X2 X3 X4
      have HG5 := Asd.mk (blk_keep HB5.out HG3.out)
      have HI5 := Asd.mk (blk_keep HB5.out HI3.out)
      have HO5 := Asd.mk (pw_own_below HO3.out HB5.out)
      have HV5 := Asd.mk (HV3.out.below HB5.out)
      have HBA := Asd.mk (HB3.out.trans (HB5.out.mono HB3.out.size))
      have HL5 := Asd.mk (Laid.below HL.out HBA.out)
      clear HV3 HG3 HB4 HB5 HI3 HO3 KC KI HL hb
      go_wp2_with fail
      have T1 := told_calls w4 HL5.out
      refine T1.mono ?_
      clear T1
      rintro e w5 ⟨rfl, hb⟩
      have HG6 := Asd.mk (blk_keep hb HG5.out)
      have HI6 := Asd.mk (blk_keep hb HI5.out)
      have HO6 := Asd.mk (pw_own_below HO5.out hb)
      have HV6 := Asd.mk (HV5.out.below hb)
      have HBB := Asd.mk (HBA.out.trans (hb.mono HBA.out.size))
      have HL6 := Asd.mk (Laid.below HL5.out hb)
      clear hb HG5 HI5 HO5 HV5 HBA HL5
      go_wp2_with fail
      have T1 := text_calls 3 [(bPort, 1)] v8 w5 HL6.out HV6.out (by simp) (by omega) (by omega) (by simp; decide)
      rw [round_text] at T1
      refine T1.mono ?_
      clear T1
      rintro e w6 ⟨rfl, hb⟩
      have HG7 := Asd.mk (blk_keep hb HG6.out)
      have HI7 := Asd.mk (blk_keep hb HI6.out)
      have HO7 := Asd.mk (pw_own_below HO6.out hb)
      have HV7 := Asd.mk (HV6.out.below hb)
      have HBC := Asd.mk (HBB.out.trans (hb.mono HBB.out.size))
      clear hb HG6 HI6 HO6 HV6 HBB HL6
      go_wp2_with fail
      have T1 := Is_calls3 [(bPort, 1)] v8 w6 HV7.out
      refine T1.mono ?_
      clear T1
      rintro e w7 ⟨rfl, rfl⟩
      have g0 : w6.cell? ⟨w.heap.size + 1, 0, none⟩ = some (.int .i64 (↑k + 2)) := blk_cell HG7.out
      have g1 : w6.cell? ⟨w.heap.size + 1, 1, none⟩ = some (.slice (some ⟨g, 0, none⟩) k q) := blk_cell HG7.out
      have g2 : w6.cell? ⟨w.heap.size + 1, 2, none⟩ = some (.slice (some ⟨w.heap.size, 0, none⟩) 1 1) := blk_cell HG7.out
      have KI := Asd.mk (Cint_of_block (k := .i64) (l := [0]) HI7.out (by decide))
      obtain ⟨kC, _⟩ := C49_of_own HO7.out HLR.out hk1' (by omega)
      have KC := Asd.mk kC
      clear kC
      go_wp2_with fail
      have T1 := (to_calls (↑k + 2) (some ⟨g, 0, none⟩) (some ⟨w.heap.size, 0, none⟩) k 1 q 1 (round2 k a) [0] w6 HLR.out rfl KC.out Kc.out KI.out (by omega) (by omega) (by omega))
      refine T1.mono ?_
      clear T1 g0 g1 g2
      rintro e w8 ⟨B5, B6, d5, d6, rfl, hc1, hd1, hc2, hd2, hb⟩
      have X1 := Asd.mk hc1
      have X2 := Asd.mk hd1
      have X3 := Asd.mk hc2
      have X4 := Asd.mk hd2
      have HBD := Asd.mk (HBC.out.trans (hb.mono HBC.out.size))
      clear hc1 hd1 hc2 hd2 hb
      go_wp2_with fail
      have T1 := (check_n (↑k + 2) B5 B6 k 1 d5 d6 ((round2 k a).map conv) [0] w8 (by rw [List.length_map, HLR.out]) rfl X1.out X2.out X3.out X4.out HA1.out)
      refine T1.mono ?_
      clear T1
      rintro e w9 ⟨v10, rfl, hv, hb⟩
      rw [round_none k H99.out a HAK.out] at hv
      obtain rfl : v10 = .nilIface := hv
      have HBE := Asd.mk (HBD.out.trans (hb.mono HBD.out.size))
      clear hb
      have hwk2 : IntKind.i64.wrap ((k : Int) + 2) = (k : Int) + 2 := IntWalk.i64_in _ (by have := H99.out; omega)
      go_wp2_with fail
      go_ret
      exact ⟨rfl, HBE.out⟩
end Go.Proofs.YtcgjdljhpcjmeaaDoor
