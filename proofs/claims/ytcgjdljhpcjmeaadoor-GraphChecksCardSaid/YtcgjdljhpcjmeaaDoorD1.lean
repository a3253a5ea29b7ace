import Derived.Test.YtcgjdljhpcjmeaaDoorC1
import Derived.Test.YtcgjdljhpcjmeaaDoorG2
import Derived.OwnWalk
namespace Go.Proofs.YtcgjdljhpcjmeaaDoor
open Go.RowKit Go.Proofs.YtcgjdljhpcjmeaaDoorW.PrintWords Go.Proofs.YtcgjdljhpcjmeaaDoorW.PrintMore PGraphChecks

theorem row_block {w : World} {base b n : Nat} {e : TypeId} {xs : List Value} (h : w.ownsRow base e 1 (.slice (some ⟨b, 0, none⟩) n n) n xs) : w.heap[b]? = some (.cells xs.toArray e (0, 0)) ∧ base ≤ b := by
  rcases h.2 with ⟨hv, _⟩ | ⟨g', cap', cur, hv, hb, hh, h1, h2, h3, h4⟩
  · cases hv
  · cases hv
    refine ⟨?_, hb⟩
    rw [hh, ← h4, List.take_of_length_le (by rw [Array.length_toList, h3]; exact Nat.le_refl _)]

/-- A square whose rows are being laid. -/
structure MatB (w : World) (base g P : Nat) (rows : List Nat) (M : List (List Int)) : Prop where
  own : w.ownsRow base 70 1 (.slice (some ⟨g, 0, none⟩) P P) P (rows.map (rowV P) ++ List.replicate (P - rows.length) (.slice none 0 0))
  len : rows.length = M.length
  nodup : ∀ i j b : Nat, rows[i]? = some b → rows[j]? = some b → i = j
  blk : ∀ i b : Nat, rows[i]? = some b → base ≤ b ∧ w.heap[b]? = some (.cells (rowC (M.getD i [])) 47 (0, 0))

theorem MatB.below {w w1 : World} {base g P : Nat} {rows : List Nat} {M : List (List Int)} (h : MatB w base g P rows M) (hb : Below w.heap.size w w1) : MatB w1 base g P rows M :=
  ⟨pw_own_below h.own hb, h.len, h.nodup, fun i b hi => ⟨(h.blk i b hi).1, (hb.block b (Array.getElem?_eq_some_iff.1 (h.blk i b hi).2).1).trans (h.blk i b hi).2⟩⟩
theorem MatB.full {w : World} {base g P : Nat} {rows : List Nat} {M : List (List Int)} (h : MatB w base g P rows M) (hp : rows.length = P) : Mat w base (.slice (some ⟨g, 0, none⟩) P P) P rows M := by
  refine ⟨?_, h.len, h.nodup, h.blk⟩
  have := h.own
  rw [hp, Nat.sub_self, List.replicate_zero, List.append_nil] at this
  rw [hp]; exact this
theorem MatB.push {w : World} {base g P : Nat} {rows : List Nat} {M : List (List Int)} (h : MatB w base g P rows M) (hlt : rows.length < P) {b : Nat} {r : List Int} (hbb : base ≤ b) (hb : w.heap[b]? = some (.cells (rowC r) 47 (0, 0))) (hn : b ∉ rows) :
    MatB (w.setCell ⟨g, rows.length, none⟩ (rowV P b)) base g P (rows ++ [b]) (M ++ [r]) := by
  obtain ⟨hg, _⟩ := row_block h.own
  have hkeep : ∀ (k : Nat) (c : Array Value), w.heap[k]? = some (.cells c 47 (0, 0)) → (w.setCell ⟨g, rows.length, none⟩ (rowV P b)).heap[k]? = some (.cells c 47 (0, 0)) := by
    intro k c hk
    rw [Below.heap_setCell _ _ _ _ (by rintro rfl; rw [hg] at hk; cases hk), hk]
  refine ⟨?_, by simp [h.len], ?_, ?_⟩
  · have := own_cell_set h.own rows.length (rowV P b)
    have e : (rows.map (rowV P) ++ List.replicate (P - rows.length) (Value.slice none 0 0)).set rows.length (rowV P b) = (rows ++ [b]).map (rowV P) ++ List.replicate (P - (rows ++ [b]).length) (Value.slice none 0 0) := by
      obtain ⟨q, hq⟩ : ∃ q, P - rows.length = q + 1 := ⟨P - rows.length - 1, by omega⟩
      have hq2 : P - (rows ++ [b]).length = q := by simp; omega
      rw [hq, hq2, List.set_append_right _ _ (by simp)]
      simp [List.replicate_succ]
    rw [e] at this
    exact this
  · intro i j c hi hj
    rw [List.getElem?_append] at hi hj
    split at hi <;> split at hj
    · exact h.nodup i j c hi hj
    · have : c = b := by have := (List.getElem?_eq_some_iff.1 hj); simp at this; exact this.2.symm
      subst this
      exact absurd (List.mem_of_getElem? hi) hn
    · have : c = b := by have := (List.getElem?_eq_some_iff.1 hi); simp at this; exact this.2.symm
      subst this
      exact absurd (List.mem_of_getElem? hj) hn
    · have h1 := (List.getElem?_eq_some_iff.1 hi).1
      have h2 := (List.getElem?_eq_some_iff.1 hj).1
      simp at h1 h2
      omega
  · intro i c hi
    rw [List.getElem?_append] at hi
    split at hi
    · rename_i hlt
      have h3 := h.blk i c hi
      refine ⟨h3.1, ?_⟩
      rw [hkeep _ _ h3.2]
      simp only [List.getD_eq_getElem?_getD]
      rw [List.getElem?_append_left (by rw [← h.len]; exact hlt)]
    · rename_i hge
      have h1 := (List.getElem?_eq_some_iff.1 hi)
      simp at h1
      obtain ⟨h2, rfl⟩ := h1
      refine ⟨hbb, ?_⟩
      rw [hkeep _ _ hb]
      have : i = M.length := by rw [← h.len]; omega
      subst this
      simp [List.getD_eq_getElem?_getD]
theorem MatB.set {w : World} {base g P : Nat} {rows : List Nat} {M : List (List Int)} (h : MatB w base g P rows M) {i j b : Nat} (hi : rows[i]? = some b) (x : Int) :
    MatB (w.setCell ⟨b, j, none⟩ (.int .u64 x)) base g P rows (Fw.setM M i j x) := by
  have hil : i < M.length := by rw [← h.len]; exact (List.getElem?_eq_some_iff.1 hi).1
  have hbb := (h.blk i b hi).2
  refine ⟨?_, by simp [Fw.setM, h.len], h.nodup, fun i' b' hi' => ⟨(h.blk i' b' hi').1, ?_⟩⟩
  · refine own_move h.own fun k hk => Below.heap_setCell _ _ _ _ fun he => ?_
    obtain ⟨cells, hc⟩ := own_typed h.own k hk
    simp only at he
    rw [he, hbb] at hc
    cases hc
  · by_cases hbe : b' = b
    · subst hbe
      obtain rfl := h.nodup i i' b' hi hi'
      rw [setCell_block hbb]
      simp only [Fw.setM, List.getD_eq_getElem?_getD, List.getElem?_set_self hil]
      simp [rowC, List.getD_eq_getElem?_getD]
    · rw [Below.heap_setCell _ _ _ _ hbe, (h.blk i' b' hi').2]
      have hne : i ≠ i' := fun e => hbe (by subst e; rw [hi] at hi'; injection hi' with hi'; exact hi'.symm)
      simp [Fw.setM, List.getD_eq_getElem?_getD, List.getElem?_set_ne hne]
theorem MatB.outer {w : World} {base g P : Nat} {rows : List Nat} {M : List (List Int)} (h : MatB w base g P rows M) {i b : Nat} (hi : rows[i]? = some b) : w.cell? ⟨g, i, none⟩ = some (.slice (some ⟨b, 0, none⟩) P P) := by
  have := h.own.cells (g := g) rfl i (rowV P b) (by rw [List.getElem?_append_left (by rw [List.length_map]; exact (List.getElem?_eq_some_iff.1 hi).1), List.getElem?_map, hi]; rfl)
  rwa [add_plain] at this
theorem MatB.inner {w : World} {base g P : Nat} {rows : List Nat} {M : List (List Int)} (h : MatB w base g P rows M) {i j b : Nat} (hi : rows[i]? = some b) (hj : j < (M.getD i []).length) :
    w.cell? ⟨b, j, none⟩ = some (.int .u64 (Fw.getM M i j)) ∧ w.frozen? ⟨b, j, none⟩ = false := by
  have hb := (h.blk i b hi).2
  refine ⟨?_, by simp [World.frozen?, hb]⟩
  simp only [World.cell?, hb, rowC, Fw.getM]
  simp [List.getD_eq_getElem?_getD] at hj ⊢
  rw [List.getElem?_eq_getElem hj]
  simp

theorem MatB.next {w : World} {base g P : Nat} {rows : List Nat} {M : List (List Int)} (h : MatB w base g P rows M) {i : Nat} (hi : rows.length = i) (hlt : i < P) : w.cell? ⟨g, i, none⟩ = some (.slice none 0 0) ∧ w.frozen? ⟨g, i, none⟩ = false := by
  subst hi
  obtain ⟨hg, _⟩ := row_block h.own
  refine ⟨?_, by simp [World.frozen?, hg]⟩
  simp only [World.cell?, hg]
  rw [List.getElem?_toArray, List.getElem?_append_right (by simp)]
  simp [List.getElem?_replicate]
  omega
theorem made_one (z : Value) (n : Nat) : (madeCells #[z] n).toList = List.replicate n z := by
  rw [List.eq_replicate_iff]
  refine ⟨by simp [madeCells], fun x hx => ?_⟩
  simp only [madeCells, Array.toList_map, List.mem_map] at hx
  obtain ⟨j, _, rfl⟩ := hx
  simp [Nat.mod_one]
theorem Mat.at_ {w : World} {base g P : Nat} {rows : List Nat} {M : List (List Int)} (h : Mat w base (.slice (some ⟨g, 0, none⟩) P P) P rows M) {i b : Nat} (hi : rows[i]? = some b) : w.cell? ⟨g, i, none⟩ = some (.slice (some ⟨b, 0, none⟩) P P) := by
  have hp : 0 < rows.length := Nat.lt_of_le_of_lt (Nat.zero_le _) (List.getElem?_eq_some_iff.1 hi).1
  obtain ⟨g', cap, hv, _, _, ho⟩ := h.outer hp
  injection hv with h1 h2 h3
  injection h1 with h1
  injection h1 with h1
  subst h1
  exact ho i b hi
/-- The edges as the law's own type has them. -/
def esOf49 (l : List S49) : List (Nat × Nat × Int) := l.map fun e => (e.f0.toNat, e.f1.toNat, e.f2)
def EIn49 (P : Nat) (l : List S49) : Prop := ∀ e ∈ l, 0 ≤ e.f0 ∧ e.f0 < P ∧ 0 ≤ e.f1 ∧ e.f1 < P ∧ 0 ≤ e.f2 ∧ e.f2 ≤ Fw.never

/-- A row while it is laid: nothing behind n yet. -/
def rowN (P p n : Nat) : List Int := (List.range P).map fun j => if j < n then (if p = j then 0 else Fw.never) else 0
theorem rowN_len (P p n : Nat) : (rowN P p n).length = P := by simp [rowN]
theorem rowN_zero (P p : Nat) : rowN P p 0 = List.replicate P 0 := by
  unfold rowN
  rw [List.eq_replicate_iff]
  exact ⟨by simp, fun x hx => by obtain ⟨j, _, rfl⟩ := List.mem_map.1 hx; rfl⟩
theorem rowN_succ (P p n : Nat) : (rowN P p n).set n (if p = n then 0 else Fw.never) = rowN P p (n + 1) := by
  apply List.ext_getElem?
  intro j
  unfold rowN
  rw [List.getElem?_set]
  simp only [List.getElem?_map, List.length_map, List.length_range]
  by_cases hj : j < P
  · rw [List.getElem?_range hj]
    by_cases hjn : n = j
    · subst hjn; simp [hj]
    · simp only [hjn, if_false, Option.map_some]
      by_cases h1 : j < n
      · rw [if_pos h1, if_pos (show j < n + 1 by omega)]
      · rw [if_neg h1, if_neg (show ¬ j < n + 1 by omega)]
  · rw [List.getElem?_eq_none (by simp; omega)]
    by_cases hjn : n = j
    · subst hjn; simp [hj]
    · simp [hjn]
theorem rowN_full (P p : Nat) : rowN P p P = Fw.row0 P p := by
  apply List.ext_getElem?
  intro j
  unfold rowN Fw.row0
  rw [List.getElem?_set]
  simp only [List.getElem?_map, List.length_replicate, List.getElem?_replicate]
  by_cases hj : j < P
  · rw [List.getElem?_range hj]
    by_cases hp : p = j
    · subst hp; simp [hj]
    · simp [hj, hp]
  · rw [List.getElem?_eq_none (by simp; omega)]
    by_cases hp : p = j
    · subst hp; simp [hj]
    · simp [hj, hp]
theorem setM_last (M : List (List Int)) (r : List Int) (i j : Nat) (x : Int) (h : M.length = i) : Fw.setM (M ++ [r]) i j x = M ++ [r.set j x] := by
  subst h
  simp [Fw.setM, List.getD_eq_getElem?_getD]

theorem plus56_calls (a b : Int) (w : World) (ha : 0 ≤ a) (ha' : a ≤ Fw.never) (hb : 0 ≤ b) (hb' : b ≤ Fw.never) :
    Calls Tryd.prog 56 #[.int .u64 a, .int .u64 b] w fun e w' => e = .returned (.int .u64 (Fw.plusP a b)) ∧ w = w' := by
  unfold Fw.never at ha' hb'
  have e : Fw.plusP a b = if b ≥ 18446744073709551615 - a then 18446744073709551615 else a + b := by
    unfold Fw.plusP Fw.never; split <;> split <;> omega
  by_cases h : b ≥ 18446744073709551615 - a
  · rw [if_pos h] at e
    rw [e]; clear e
    go_enter Tryd.func56, Tryd.ntmps56
    go_wp2
    go_ret
    exact ⟨rfl, rfl⟩
  · rw [if_neg h] at e
    rw [e]; clear e
    have h' : b < 18446744073709551615 - a := by omega
    clear h
    go_enter Tryd.func56, Tryd.ntmps56
    go_wp2
    go_ret
    exact ⟨rfl, rfl⟩

set_option maxHeartbeats 2000000 in
set_option maxRecDepth 100000 in
theorem closed_calls (P : Nat) (hP1 : 1 ≤ P) (hP2 : P ≤ 64) (AE AI : Option Addr) (cE cI : Nat) (es : List S49) (nI : Nat) (w : World) (hE : Kd.C k49 w AE es.length es) (hin : EIn49 P es) :
    Calls Tryd.prog 36 #[.agg #[.int .i64 P, .slice AE es.length cE, .slice AI nI cI]] w fun e w' => ∃ v rows, e = .returned v ∧ Mat w' w.heap.size v P rows (Fw.closedP P (esOf49 es)) ∧ Below w.heap.size w w' := by
  have HE := Asd.mk hE
  have hel := hE.2.1
  have HIN := Asd.mk hin
  clear hE hin
  have HB := Asd.mk (below_al (Below.refl w.heap.size w) (.cells #[.int .i64 P, .slice AE es.length cE, .slice AI nI cI] 25))
  have hg0 : Asd ((w.alloc (.cells #[.int .i64 P, .slice AE es.length cE, .slice AI nI cI] 25)).heap[w.heap.size]? = some (.cells #[.int .i64 P, .slice AE es.length cE, .slice AI nI cI] 25 (0, 0))) := ⟨heap_alloc_new w _⟩
  obtain ⟨i70, hi70⟩ : ∃ i, Tryd.prog.info? 70 = some i := by
    cases h : Tryd.prog.info? 70 with
    | none => have := info70; rw [h] at this; cases this
    | some i => exact ⟨i, rfl⟩
  have hz70 := info70
  rw [hi70] at hz70
  simp only [Option.map_some, Option.some.injEq, Prod.mk.injEq] at hz70
  obtain ⟨i47, hi47⟩ : ∃ i, Tryd.prog.info? 47 = some i := by
    cases h : Tryd.prog.info? 47 with
    | none => have := info47; rw [h] at this; cases this
    | some i => exact ⟨i, rfl⟩
  have hz47 := info47
  rw [hi47] at hz47
  simp only [Option.map_some, Option.some.injEq, Prod.mk.injEq] at hz47
  have HZ70 := Asd.mk hz70
  have HZ47 := Asd.mk hz47
  have HI70 := Asd.mk hi70
  have HI47 := Asd.mk hi47
  clear hz70 hz47 hi70 hi47
  go_enter Tryd.func36, Tryd.ntmps36
  go_wp2_with (at_make; refine wpList_make_full _ rfl _ _ 41 rfl (w.heap.size + 1) 70 i70 (.slice none 0 0) 1 Tryd.underlying41 HI70.out HZ70.out.1 HZ70.out.2.1 .i64 .i64 _ _ P rfl rfl rfl rfl (by rw [HZ70.out.2.2]; omega) (by unfold maxLen; omega) (by simp) ?_; intro w1 ho1 hg1)
  have HB1 : Asd (Below (w.heap.size + 1) (w.alloc (.cells #[.int .i64 P, .slice AE es.length cE, .slice AI nI cI] 25)) w1) := ⟨(Below.refl _ _).grown hg1 (by simp) (by simp)⟩
  have HM1 : Asd (MatB w1 (w.heap.size + 1) (w.heap.size + 1) P [] (Fw.mat0 P 0)) := ⟨⟨by
    rw [Nat.mul_one, show (Value.slice none 0 0).cells = #[.slice none 0 0] from rfl, made_one] at ho1
    simpa using ho1, rfl, by simp, by simp⟩⟩
  have HZ0 : Asd ((w.alloc (.cells #[.int .i64 P, .slice AE es.length cE, .slice AI nI cI] 25)).heap.size = w.heap.size + 1) := ⟨by simp⟩
  clear ho1 hg1
  generalize w.alloc (.cells #[.int .i64 P, .slice AE es.length cE, .slice AI nI cI] 25) = W0 at *
  go_loopw [4] (fun v4 w' => ∃ (i : Nat) (rows : List Nat), i ≤ P ∧ v4 = .int .i64 i ∧ Asd (MatB w' (w.heap.size + 1) (w.heap.size + 1) P rows (Fw.mat0 P i)) ∧ Asd (Below (w.heap.size + 1) W0 w')) (fun v4 _ => P - (intOf v4).toNat)
  case atStart => exact ⟨0, [], Nat.zero_le _, rfl, HM1, HB1⟩
  case round =>
    clear HM1 HB1
    obtain ⟨i, rows, hi, rfl, HM, HB1⟩ := hrel
    have hlt0 : w.heap.size < w.heap.size + 1 := by omega
    have hc0 : wr.cell? ⟨w.heap.size, 0, none⟩ = some (.int .i64 P) := (HB1.out.cell (p := ⟨w.heap.size, 0, none⟩) hlt0).trans (by simp [World.cell?, hg0.out])
    by_cases hlt : i < P
    · have HRL : Asd (rows.length = i) := ⟨by rw [HM.out.len]; simp [Fw.mat0]⟩
      have hsz : w.heap.size + 1 ≤ wr.heap.size := by have := HB1.out.size; have := HZ0.out; omega
      have HSZ := Asd.mk hsz
      go_wp2_with (at_make; refine wpList_make_full _ rfl _ _ 70 rfl (w.heap.size + 1) 47 i47 (.int .u64 0) 1 Tryd.underlying70 HI47.out HZ47.out.1 HZ47.out.2.1 .i64 .i64 _ _ P rfl rfl rfl rfl (by rw [HZ47.out.2.2]; omega) (by unfold maxLen; omega) HSZ.out ?_; intro w2 ho2 hg2; have hb2 : Below wr.heap.size wr w2 := (Below.refl _ _).grown hg2 (Nat.le_refl _) (by simp); have HM2 := Asd.mk (HM.out.below hb2); obtain ⟨hn1, hn2⟩ := HM2.out.next HRL.out hlt)
      have HB2 := Asd.mk (HB1.out.trans (hb2.mono HSZ.out))
      rw [Nat.mul_one, show (Value.int .u64 0).cells = #[.int .u64 0] from rfl, made_one] at ho2
      obtain ⟨hrb, hrb2⟩ := row_block ho2
      have HN : Asd (wr.heap.size ∉ rows) := ⟨fun hm => by
        obtain ⟨j, hj⟩ := List.getElem?_of_mem hm
        have := (Array.getElem?_eq_some_iff.1 (HM.out.blk j _ hj).2).1
        omega⟩
      have HM3 : Asd (MatB (w2.setCell ⟨w.heap.size + 1, i, none⟩ (.slice (some ⟨wr.heap.size, 0, none⟩) P P)) (w.heap.size + 1) (w.heap.size + 1) P (rows ++ [wr.heap.size]) (Fw.mat0 P i ++ [rowN P i 0])) := ⟨by
        have h := HM2.out.push (by rw [HRL.out]; exact hlt) hrb2 (r := rowN P i 0) (by rw [rowN_zero, hrb]; simp [rowC]) HN.out
        rw [HRL.out] at h
        exact h⟩
      have HB3 : Asd (Below (w.heap.size + 1) W0 (w2.setCell ⟨w.heap.size + 1, i, none⟩ (.slice (some ⟨wr.heap.size, 0, none⟩) P P))) := ⟨HB2.out.setCell (Nat.le_refl _) _⟩
      have HRN : Asd ((rows ++ [wr.heap.size])[i]? = some wr.heap.size) := ⟨by rw [← HRL.out]; simp⟩
      clear hn1 hn2 ho2 hg2 hb2 hrb hrb2 HM2 HB2 HN hsz HSZ
      generalize w2.setCell ⟨w.heap.size + 1, i, none⟩ (.slice (some ⟨wr.heap.size, 0, none⟩) P P) = W2 at *
      generalize rows ++ [wr.heap.size] = rows2 at *
      generalize wr.heap.size = bi at *
      clear HM HB1 hc0
      go_loopw [5] (fun v5 w' => ∃ (j : Nat), j ≤ P ∧ v5 = .int .i64 j ∧ Asd (MatB w' (w.heap.size + 1) (w.heap.size + 1) P rows2 (Fw.mat0 P i ++ [rowN P i j])) ∧ Asd (Below (w.heap.size + 1) W0 w')) (fun v5 _ => P - (intOf v5).toNat)
      case atStart => exact ⟨0, Nat.zero_le _, rfl, HM3, HB3⟩
      case round =>
        clear HM3 HB3
        obtain ⟨j, hj, rfl, HM, HB1⟩ := hrel
        have hc0 : wr.cell? ⟨w.heap.size, 0, none⟩ = some (.int .i64 P) := (HB1.out.cell (p := ⟨w.heap.size, 0, none⟩) hlt0).trans (by simp [World.cell?, hg0.out])
        have HML : Asd ((Fw.mat0 P i).length = i) := ⟨by simp [Fw.mat0]⟩
        by_cases hltj : j < P
        · have HRD : Asd ((Fw.mat0 P i ++ [rowN P i j]).getD i [] = rowN P i j) := ⟨by
            have := HML.out
            simp [List.getD_eq_getElem?_getD, this]⟩
          have ho := HM.out.outer HRN.out
          obtain ⟨hn1, hn2⟩ := HM.out.inner HRN.out (j := j) (by rw [HRD.out, rowN_len]; exact hltj)
          have hbi : w.heap.size + 1 ≤ bi := (HM.out.blk _ _ HRN.out).1
          have HBI := Asd.mk hbi
          have hne : bi ≠ w.heap.size + 1 := by
            rintro rfl
            have q1 := (row_block HM.out.own).1
            have q2 := (HM.out.blk _ _ HRN.out).2
            rw [q1] at q2
            injection q2 with q2
            injection q2 with _ q3
            exact absurd q3 (by decide)
          have hne2 : w.heap.size + 1 ≠ bi := fun h => hne h.symm
          have hne3 : w.heap.size ≠ bi := by omega
          by_cases hij : i = j
          · subst hij
            go_wp2
            go_roundw
            case measure => simp [intOf]; omega
            case rel =>
              refine ⟨i + 1, by omega, by go_num, ⟨?_⟩, ⟨(HB1.out.setCell HBI.out _).setCell HBI.out _⟩⟩
              have h := (HM.out.set (j := i) HRN.out Fw.never).set (j := i) HRN.out 0
              rw [setM_last _ _ _ _ _ HML.out, setM_last _ _ _ _ _ HML.out, List.set_set] at h
              have e := rowN_succ P i i
              rw [if_pos rfl] at e
              rw [e] at h
              exact h
          · have hij2 : ((i : Int) == (j : Int)) = false := by rw [beq_eq_false_iff_ne]; omega
            go_wp2
            go_roundw
            case measure => simp [intOf]; omega
            case rel =>
              refine ⟨j + 1, by omega, by go_num, ⟨?_⟩, ⟨HB1.out.setCell HBI.out _⟩⟩
              have h := HM.out.set (j := j) HRN.out Fw.never
              rw [setM_last _ _ _ _ _ HML.out] at h
              have e := rowN_succ P i j
              rw [if_neg hij] at e
              rw [e] at h
              exact h
        · obtain rfl : P = j := by omega
          go_wp2
          go_roundw
          case measure => simp [intOf]; omega
          case rel =>
            refine ⟨i + 1, rows2, by omega, by go_num, ⟨?_⟩, HB1⟩
            rw [Fw.mat0_succ, ← rowN_full]
            exact HM.out
    · obtain rfl : P = i := by omega
      have HL0 := Asd.mk (HM.out.len.trans (show (Fw.mat0 P P).length = P by simp [Fw.mat0]))
      have HM1 := Asd.mk (HM.out.full HL0.out)
      clear HM
      have hc1 : wr.cell? ⟨w.heap.size, 1, none⟩ = some (.slice AE es.length cE) := (HB1.out.cell (p := ⟨w.heap.size, 1, none⟩) hlt0).trans (by simp [World.cell?, hg0.out])
      have HES : Asd (∀ e ∈ esOf49 es, Fw.EOk P e) := ⟨by
        intro e he
        obtain ⟨y, hy, rfl⟩ := List.mem_map.1 he
        obtain ⟨p0, p1, p2, p3, p4, p5⟩ := HIN.out y hy
        exact ⟨by simp only; omega, by simp only; omega, p4, p5⟩⟩
      have HWY : Asd (Fw.closedP P (esOf49 es) = Fw.clr P (esOf49 es) P (Fw.mat0 P P)) := ⟨rfl⟩
      have HOK1 := Asd.mk (Fw.mat0_ok P)
      generalize Fw.mat0 P P = M1 at *
      go_wp2_with fail
      go_loopw [6] (fun v6 w' => ∃ n : Nat, n ≤ P ∧ v6 = .int .i64 n ∧ Asd (Mat w' (w.heap.size + 1) (.slice (some ⟨w.heap.size + 1, 0, none⟩) P P) P rows (Fw.clr P (esOf49 es) n M1)) ∧ Asd (Below (w.heap.size + 1) W0 w')) (fun v6 _ => P - (intOf v6).toNat)
      case atStart => exact ⟨0, Nat.zero_le _, rfl, HM1, HB1⟩
      case round =>
        clear hc0 hc1 HM1 HB1
        obtain ⟨n, hn, rfl, HM, HB1⟩ := hrel
        have hc0 : wr.cell? ⟨w.heap.size, 0, none⟩ = some (.int .i64 P) := (HB1.out.cell (p := ⟨w.heap.size, 0, none⟩) hlt0).trans (by simp [World.cell?, hg0.out])
        by_cases hltn : n < P
        · have HOK := Asd.mk (Fw.clr_ok HES.out HOK1.out n)
          have HNS := Asd.mk (Fw.clr_succ P (esOf49 es) n M1)
          generalize Fw.clr P (esOf49 es) n M1 = M2 at *
          go_wp2_with fail
          go_loopw [7] (fun v7 w' => ∃ i : Nat, i ≤ P ∧ v7 = .int .i64 i ∧ Asd (Mat w' (w.heap.size + 1) (.slice (some ⟨w.heap.size + 1, 0, none⟩) P P) P rows (Fw.cli (esOf49 es) i M2)) ∧ Asd (Below (w.heap.size + 1) W0 w')) (fun v7 _ => P - (intOf v7).toNat)
          case atStart => exact ⟨0, Nat.zero_le _, rfl, HM, HB1⟩
          case round =>
            clear hc0 HM HB1
            obtain ⟨i, hi, rfl, HM, HB1⟩ := hrel
            have hc0 : wr.cell? ⟨w.heap.size, 0, none⟩ = some (.int .i64 P) := (HB1.out.cell (p := ⟨w.heap.size, 0, none⟩) hlt0).trans (by simp [World.cell?, hg0.out])
            by_cases hlti : i < P
            · have HOKi := Asd.mk (Fw.cli_ok HES.out HOK.out i hi)
              have HIS := Asd.mk (Fw.cli_succ (esOf49 es) i M2)
              generalize Fw.cli (esOf49 es) i M2 = M3 at *
              go_wp2_with fail
              go_loopw [8] (fun v8 w' => ∃ k : Nat, k ≤ es.length ∧ v8 = .int .i64 k ∧ Asd (Mat w' (w.heap.size + 1) (.slice (some ⟨w.heap.size + 1, 0, none⟩) P P) P rows (Fw.cle i ((esOf49 es).take k) M3)) ∧ Asd (Below (w.heap.size + 1) W0 w')) (fun v8 _ => es.length - (intOf v8).toNat)
              case atStart => exact ⟨0, Nat.zero_le _, rfl, HM, HB1⟩
              case round =>
                clear hc0 HM HB1
                obtain ⟨k, hk, rfl, HM, HB1⟩ := hrel
                have hc1 : wr.cell? ⟨w.heap.size, 1, none⟩ = some (.slice AE es.length cE) := (HB1.out.cell (p := ⟨w.heap.size, 1, none⟩) hlt0).trans (by simp [World.cell?, hg0.out])
                by_cases hltk : k < es.length
                · have HBw := Asd.mk (HB.out.trans (HB1.out.mono (Nat.le_succ _)))
                  obtain ⟨ad, hA, c0, c1, c2⟩ := at_T49 (Kd.C_below HE.out HBw.out) (k : Int) (by omega) (by omega)
                  subst hA
                  have hrd : rd_T49 es (k : Int) = es[k] := by simp [rd_T49, List.getD_eq_getElem?_getD, List.getElem?_eq_getElem hltk]
                  simp only [hrd, Int.toNat_natCast] at c0 c1 c2
                  obtain ⟨q0, q1, q2, q3, q4, q5⟩ := HIN.out es[k] (List.getElem_mem hltk)
                  have HT : Asd ((esOf49 es).take (k + 1) = (esOf49 es).take k ++ [(es[k].f0.toNat, es[k].f1.toNat, es[k].f2)]) := by
                    constructor
                    rw [List.take_add_one, List.getElem?_eq_getElem (by simpa [esOf49] using hltk)]
                    simp [esOf49]
                  generalize es[k] = x at *
                  obtain ⟨a, ha⟩ := Int.eq_ofNat_of_zero_le q0
                  obtain ⟨c, hc⟩ := Int.eq_ofNat_of_zero_le q2
                  obtain ⟨x0, x1, x2⟩ := x
                  simp only at *
                  subst ha; subst hc
                  rw [Int.toNat_natCast, Int.toNat_natCast] at HT
                  clear hrd
                  have HOKk := Asd.mk (Fw.cle_ok (es := (esOf49 es).take k) (fun e he => HES.out e (List.mem_of_mem_take he)) HOKi.out hlti)
                  have HCS := Asd.mk (Fw.cle_snoc i ((esOf49 es).take k) (a, c, x2) M3)
                  generalize Fw.cle i ((esOf49 es).take k) M3 = M4 at *
                  have hrl : rows.length = P := HL0.out
                  obtain ⟨bi, hbi⟩ : ∃ b, rows[i]? = some b := ⟨_, List.getElem?_eq_getElem (by omega)⟩
                  have HBI := Asd.mk hbi
                  have HMB := Asd.mk (HM.out.below (below_al (Below.refl wr.heap.size wr) (.cells #[.int .i64 a, .int .i64 c, .int .u64 x2] 49)))
                  have HBB : Asd (Below (w.heap.size + 1) W0 (wr.alloc (.cells #[.int .i64 a, .int .i64 c, .int .u64 x2] 49))) := ⟨HB1.out.alloc (by have := HB1.out.size; have := HZ0.out; omega) _⟩
                  have E0 : Asd ((wr.alloc (.cells #[.int .i64 a, .int .i64 c, .int .u64 x2] 49)).cell? ⟨wr.heap.size, 0, none⟩ = some (.int .i64 a)) := ⟨by simp⟩
                  have E1 : Asd ((wr.alloc (.cells #[.int .i64 a, .int .i64 c, .int .u64 x2] 49)).cell? ⟨wr.heap.size, 1, none⟩ = some (.int .i64 c)) := ⟨by simp⟩
                  have E2 : Asd ((wr.alloc (.cells #[.int .i64 a, .int .i64 c, .int .u64 x2] 49)).cell? ⟨wr.heap.size, 2, none⟩ = some (.int .u64 x2)) := ⟨by simp⟩
                  go_wp2_with fail
                  clear c0 c1 c2 hc1 HM HB1 HBw
                  generalize wr.alloc (.cells #[.int .i64 a, .int .i64 c, .int .u64 x2] 49) = WB at *
                  generalize wr.heap.size = eb at *
                  have hoa := Asd.mk (HMB.out.at_ hbi)
                  have nia := Asd.mk (HMB.out.inner hbi (j := a) (by rw [HOKk.out.rowlen hlti]; omega))
                  have nic := Asd.mk (HMB.out.inner hbi (j := c) (by rw [HOKk.out.rowlen hlti]; omega))
                  have gia := HOKk.out.get hlti (show a < P by omega)
                  have gic := Asd.mk (HOKk.out.get hlti (show c < P by omega))
                  clear hbi
                  refine region_plan (fun w' => w'.cell? ⟨w.heap.size + 1, i, none⟩ = some (.slice (some ⟨bi, 0, none⟩) P P) ∧ w'.cell? ⟨eb, 0, none⟩ = some (.int .i64 a) ∧ w'.cell? ⟨eb, 2, none⟩ = some (.int .u64 x2) ∧ w'.cell? ⟨bi, a, none⟩ = some (.int .u64 (Fw.getM M4 i a))) []
                    [(0, 0), (1, 0), (2, 0), (3, 1), (4, 0), (5, 1), (6, 0), (7, 1), (8, 0), (9, 1), (10, 2), (11, 0)]
                    (by kernel_rfl) (by kernel_rfl) (by intro _ _ d _ _ h; cases d <;> exact h) ⟨hoa.out, E0.out, E2.out, nia.out.1⟩ ?_
                  repeat (first
                    | (refine plan_pure (v := ?_) (a' := ?_) rfl rfl (Or.inl ⟨rfl, ?_⟩) ?_ ?_
                       rotate_left 2
                       · intro w'
                         go_simp
                         with_reducible rfl
                       · simp only [Act.put, List.setIfInBounds_toArray, List.set_cons_zero, List.set_cons_succ]
                         rfl)
                    | (refine plan_load (v := ?_) (a' := ?_) rfl rfl (Or.inl ⟨rfl, ?_⟩) ?_ ?_
                       rotate_left 2
                       · rintro w' ⟨s0, s1, s2, s3⟩
                         go_simp
                         with_reducible rfl
                       · simp only [Act.put, List.setIfInBounds_toArray, List.set_cons_zero, List.set_cons_succ]
                         rfl))
                  refine plan_call rfl rfl Tryd.func56 (by kernel_rfl) rfl [.int .u64 (Fw.getM M4 i a), .int .u64 x2] (by rfl) rfl (by rfl) ?_
                  refine (plus56_calls _ _ _ gia.1 gia.2 q4 q5).mono ?_
                  rintro e w' ⟨rfl, rfl⟩
                  refine ⟨_, rfl, ⟨hoa.out, E0.out, E2.out, nia.out.1⟩, ?_⟩
                  refine plan_norm (a' := ?_) ?_ ?_
                  rotate_left
                  · simp only [Act.put, List.setIfInBounds_toArray, List.set_cons_zero, List.set_cons_succ]
                    rfl
                  repeat (first
                    | (refine plan_pure (v := ?_) (a' := ?_) rfl rfl (Or.inl ⟨rfl, ?_⟩) ?_ ?_
                       rotate_left 2
                       · intro w'
                         go_simp
                         with_reducible rfl
                       · simp only [Act.put, List.setIfInBounds_toArray, List.set_cons_zero, List.set_cons_succ]
                         rfl)
                    | (refine plan_load (v := ?_) (a' := ?_) rfl rfl (Or.inl ⟨rfl, ?_⟩) ?_ ?_
                       rotate_left 2
                       · rintro w' ⟨s0, s1, s2, s3⟩
                         go_simp
                         with_reducible rfl
                       · simp only [Act.put, List.setIfInBounds_toArray, List.set_cons_zero, List.set_cons_succ]
                         rfl))
                  refine plan_nil ?_
                  go_wp2_with fail
                  have HMD := Asd.mk (HMB.out.below (below_drew (Below.refl WB.heap.size WB)))
                  have HBD := Asd.mk (below_drew HBB.out)
                  have E1d : Asd (WB.drew.cell? ⟨eb, 1, none⟩ = some (.int .i64 c)) := ⟨E1.out⟩
                  have hoad : Asd (WB.drew.cell? ⟨w.heap.size + 1, i, none⟩ = some (.slice (some ⟨bi, 0, none⟩) P P)) := ⟨hoa.out⟩
                  have nicd : Asd (WB.drew.cell? ⟨bi, c, none⟩ = some (.int .u64 (Fw.getM M4 i c)) ∧ WB.drew.frozen? ⟨bi, c, none⟩ = false) := ⟨nic.out⟩
                  clear HMB HBB E0 E1 E2 hoa nia nic
                  generalize WB.drew = WD at *
                  have GP : Asd (Fw.cl1 i M4 (a, c, x2) = if Fw.plusP (Fw.getM M4 i a) x2 < Fw.getM M4 i c then Fw.setM M4 i c (Fw.plusP (Fw.getM M4 i a) x2) else M4) := ⟨rfl⟩
                  generalize Fw.plusP (Fw.getM M4 i a) x2 = px at *
                  by_cases hx : px < Fw.getM M4 i c
                  · refine region_plan (fun w' => w'.cell? ⟨w.heap.size + 1, i, none⟩ = some (.slice (some ⟨bi, 0, none⟩) P P) ∧ w'.cell? ⟨eb, 1, none⟩ = some (.int .i64 c) ∧ w'.cell? ⟨bi, c, none⟩ = some (.int .u64 (Fw.getM M4 i c))) []
                      [(0, 0), (1, 0), (2, 0), (3, 0), (4, 1), (5, 0), (6, 1), (7, 0), (8, 1), (9, 0)]
                      (by kernel_rfl) (by kernel_rfl) (by intro _ _ d _ _ h; cases d <;> exact h) ⟨hoad.out, E1d.out, nicd.out.1⟩ ?_
                    repeat (first
                      | (refine plan_pure (v := ?_) (a' := ?_) rfl rfl (Or.inl ⟨rfl, ?_⟩) ?_ ?_
                         rotate_left 2
                         · intro w'
                           go_simp
                           with_reducible rfl
                         · simp only [Act.put, List.setIfInBounds_toArray, List.set_cons_zero, List.set_cons_succ]
                           rfl)
                      | (refine plan_load (v := ?_) (a' := ?_) rfl rfl (Or.inl ⟨rfl, ?_⟩) ?_ ?_
                         rotate_left 2
                         · rintro w' ⟨s0, s1, s2⟩
                           go_simp
                           with_reducible rfl
                         · simp only [Act.put, List.setIfInBounds_toArray, List.set_cons_zero, List.set_cons_succ]
                           rfl))
                    refine plan_nil ?_
                    go_wp2_with fail
                    refine region_plan (fun w' => w'.cell? ⟨w.heap.size + 1, i, none⟩ = some (.slice (some ⟨bi, 0, none⟩) P P) ∧ w'.cell? ⟨eb, 1, none⟩ = some (.int .i64 c)) [8]
                      [(0, 0), (1, 0), (2, 0), (3, 1), (4, 0), (5, 1), (6, 0), (7, 0), (8, 3)]
                      (by kernel_rfl) (by kernel_rfl) (by intro _ _ d _ _ h; cases d <;> exact h) ⟨hoad.out, E1d.out⟩ ?_
                    repeat (first
                      | (refine plan_pure (v := ?_) (a' := ?_) rfl rfl (Or.inl ⟨rfl, ?_⟩) ?_ ?_
                         rotate_left 2
                         · intro w'
                           go_simp
                           with_reducible rfl
                         · simp only [Act.put, List.setIfInBounds_toArray, List.set_cons_zero, List.set_cons_succ]
                           rfl)
                      | (refine plan_load (v := ?_) (a' := ?_) rfl rfl (Or.inl ⟨rfl, ?_⟩) ?_ ?_
                         rotate_left 2
                         · rintro w' ⟨s0, s1⟩
                           go_simp
                           with_reducible rfl
                         · simp only [Act.put, List.setIfInBounds_toArray, List.set_cons_zero, List.set_cons_succ]
                           rfl))
                    have hi1 : WD.drew.drew.cell? ⟨bi, c, none⟩ = some (.int .u64 (Fw.getM M4 i c)) := nicd.out.1
                    have hf : WD.drew.drew.frozen? ⟨bi, c, none⟩ = false := nicd.out.2
                    refine plan_store (w1 := ?_) rfl rfl rfl ?_ ?_
                    rotate_left
                    · go_simp
                      rfl
                    refine plan_nil ?_
                    have HM3 : Asd (Mat (WD.drew.drew.setCell ⟨bi, c, none⟩ (.int .u64 px)) (w.heap.size + 1) (.slice (some ⟨w.heap.size + 1, 0, none⟩) P P) P rows (Fw.setM M4 i c px)) := ⟨((HMD.out.below (below_drew (Below.refl _ _))).below (below_drew (Below.refl _ _))).set (j := c) HBI.out px⟩
                    have HB3 : Asd (Below (w.heap.size + 1) W0 (WD.drew.drew.setCell ⟨bi, c, none⟩ (.int .u64 px))) := ⟨(below_drew (below_drew HBD.out)).setCell (HMD.out.blk i bi HBI.out).1 _⟩
                    clear hi1 hf
                    go_wp2
                    go_roundw
                    case measure => simp [intOf]; omega
                    case rel =>
                      refine ⟨k + 1, by omega, by go_num, ⟨?_⟩, HB3⟩
                      rw [HT.out, HCS.out, GP.out, if_pos hx]
                      exact HM3.out
                  · refine region_plan (fun w' => w'.cell? ⟨w.heap.size + 1, i, none⟩ = some (.slice (some ⟨bi, 0, none⟩) P P) ∧ w'.cell? ⟨eb, 1, none⟩ = some (.int .i64 c) ∧ w'.cell? ⟨bi, c, none⟩ = some (.int .u64 (Fw.getM M4 i c))) []
                      [(0, 0), (1, 0), (2, 0), (3, 0), (4, 1), (5, 0), (6, 1), (7, 0), (8, 1), (9, 0)]
                      (by kernel_rfl) (by kernel_rfl) (by intro _ _ d _ _ h; cases d <;> exact h) ⟨hoad.out, E1d.out, nicd.out.1⟩ ?_
                    repeat (first
                      | (refine plan_pure (v := ?_) (a' := ?_) rfl rfl (Or.inl ⟨rfl, ?_⟩) ?_ ?_
                         rotate_left 2
                         · intro w'
                           go_simp
                           with_reducible rfl
                         · simp only [Act.put, List.setIfInBounds_toArray, List.set_cons_zero, List.set_cons_succ]
                           rfl)
                      | (refine plan_load (v := ?_) (a' := ?_) rfl rfl (Or.inl ⟨rfl, ?_⟩) ?_ ?_
                         rotate_left 2
                         · rintro w' ⟨s0, s1, s2⟩
                           go_simp
                           with_reducible rfl
                         · simp only [Act.put, List.setIfInBounds_toArray, List.set_cons_zero, List.set_cons_succ]
                           rfl))
                    refine plan_nil ?_
                    go_wp2
                    go_roundw
                    case measure => simp [intOf]; omega
                    case rel =>
                      refine ⟨k + 1, by omega, by go_num, ⟨?_⟩, ⟨below_drew HBD.out⟩⟩
                      rw [HT.out, HCS.out, GP.out, if_neg hx]
                      exact HMD.out.below (below_drew (Below.refl _ _))
                · obtain rfl : es.length = k := by omega
                  have HM1 : Asd (Mat wr (w.heap.size + 1) (.slice (some ⟨w.heap.size + 1, 0, none⟩) P P) P rows (Fw.cle i (esOf49 es) M3)) := ⟨by
                    have h1 := HM.out
                    rwa [List.take_of_length_le (show (esOf49 es).length ≤ es.length by simp [esOf49])] at h1⟩
                  clear HM
                  go_wp2
                  go_roundw
                  case measure => simp [intOf]; omega
                  case rel => exact ⟨i + 1, by omega, by go_num, ⟨by rw [HIS.out]; exact HM1.out⟩, HB1⟩
            · obtain rfl : P = i := by omega
              go_wp2
              go_roundw
              case measure => simp [intOf]; omega
              case rel => exact ⟨n + 1, by omega, by go_num, ⟨by rw [HNS.out]; exact HM.out⟩, HB1⟩
        · obtain rfl : P = n := by omega
          go_wp2
          go_ret
          refine ⟨_, rows, rfl, HWY.out ▸ HM.out.lower (Nat.le_succ _), HB.out.trans ?_⟩
          exact HB1.out.mono (Nat.le_succ _)
end Go.Proofs.YtcgjdljhpcjmeaaDoor
