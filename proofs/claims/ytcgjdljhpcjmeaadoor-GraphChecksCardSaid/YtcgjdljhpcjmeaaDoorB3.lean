import Derived.Test.YtcgjdljhpcjmeaaDoorB2
namespace Go.Proofs.YtcgjdljhpcjmeaaDoor
open Go.RowKit Go.Proofs.YtcgjdljhpcjmeaaDoorW.PrintWords Go.Proofs.YtcgjdljhpcjmeaaDoorW.PrintMore PGraphChecks

def esOf (l : List S78) : List (Nat × Nat × Int) := l.map fun e => (e.f0.toNat, e.f1.toNat, e.f2)
/-- The edges lie in the graph. -/
def EIn (P : Nat) (l : List S78) : Prop := ∀ e ∈ l, 0 ≤ e.f0 ∧ e.f0 < P ∧ 0 ≤ e.f1 ∧ e.f1 < P ∧ 0 ≤ e.f2 ∧ e.f2 ≤ Fw.never

theorem Mat.snoc {w w1 : World} {base n : Nat} {v v1 : Value} {rows : List Nat} {M : List (List Int)} (h : Mat w base v n rows M) {b : Nat} {r : List Int}
    (hb : base ≤ b) (hbb : w.heap[b]? = some (.cells (rowC r) 47 (0, 0))) (hnew : b ∉ rows)
    (ho : w1.ownsRow base 70 1 v1 (rows.map (rowV n) ++ [rowV n b]).length (rows.map (rowV n) ++ [rowV n b])) (hg : w.grownBy w1 v.ownBlock) : Mat w1 base v1 n (rows ++ [b]) (M ++ [r]) := by
  have hkeep : ∀ (k : Nat) (c : Array Value), w.heap[k]? = some (.cells c 47 (0, 0)) → w1.heap[k]? = some (.cells c 47 (0, 0)) := by
    intro k c hk
    rw [hg.block k (Array.getElem?_eq_some_iff.1 hk).1, hk]
    intro he
    obtain ⟨cells, hc⟩ := own_typed h.own k he.symm
    rw [hk] at hc
    cases hc
  refine ⟨by simpa using ho, by simp [h.len], ?_, ?_⟩
  · intro i j c hi hj
    rw [List.getElem?_append] at hi hj
    split at hi <;> split at hj
    · exact h.nodup i j c hi hj
    · rename_i h1 h2
      have : c = b := by
        have := (List.getElem?_eq_some_iff.1 hj)
        simp at this
        exact this.2.symm
      subst this
      exact absurd (List.mem_of_getElem? hi) hnew
    · have : c = b := by
        have := (List.getElem?_eq_some_iff.1 hi)
        simp at this
        exact this.2.symm
      subst this
      exact absurd (List.mem_of_getElem? hj) hnew
    · have h1 := (List.getElem?_eq_some_iff.1 hi).1
      have h2 := (List.getElem?_eq_some_iff.1 hj).1
      simp at h1 h2
      omega
  · intro i c hi
    rw [List.getElem?_append] at hi
    split at hi
    · rename_i hlt
      have h3 := h.blk i c hi
      refine ⟨h3.1, ?_⟩
      rw [hkeep _ _ h3.2]
      simp only [List.getD_eq_getElem?_getD]
      rw [List.getElem?_append_left (by rw [← h.len]; exact hlt)]
    · rename_i hge
      have h1 := (List.getElem?_eq_some_iff.1 hi)
      simp at h1
      obtain ⟨h2, rfl⟩ := h1
      refine ⟨hb, ?_⟩
      rw [hkeep _ _ hbb]
      have : i = M.length := by rw [← h.len]; omega
      subst this
      simp [List.getD_eq_getElem?_getD]

set_option maxHeartbeats 2000000 in
set_option maxRecDepth 100000 in
theorem ways_calls (P : Nat) (hP1 : 1 ≤ P) (hP2 : P ≤ 64) (AE AI : Option Addr) (cE cI : Nat) (es : List S78) (nI : Nat) (w : World) (hE : Kd.C k78 w AE es.length es) (hin : EIn P es) :
    Calls Tryd.prog 34 #[.agg #[.int .i64 P, .slice AE es.length cE, .slice AI nI cI]] w fun e w' => ∃ v rows, e = .returned v ∧ Mat w' w.heap.size v P rows (Fw.ways P (esOf es)) ∧ Below w.heap.size w w' := by
  have HE := Asd.mk hE
  have hel := hE.2.1
  have HIN := Asd.mk hin
  clear hE hin
  have HB := Asd.mk (below_al (Below.refl w.heap.size w) (.cells #[.int .i64 P, .slice AE es.length cE, .slice AI nI cI] 32))
  have hg0 : Asd ((w.alloc (.cells #[.int .i64 P, .slice AE es.length cE, .slice AI nI cI] 32)).heap[w.heap.size]? = some (.cells #[.int .i64 P, .slice AE es.length cE, .slice AI nI cI] 32 (0, 0))) := ⟨heap_alloc_new w _⟩
  go_enter Tryd.func34, Tryd.ntmps34
  go_wp2_with fail
  generalize w.alloc (.cells #[.int .i64 P, .slice AE es.length cE, .slice AI nI cI] 32) = W0 at *
  go_loopw [3, 13] (fun v3 v13 w' => ∃ (k : Nat) (rows : List Nat), k ≤ P ∧ v13 = .int .i64 k ∧ Asd (Mat w' W0.heap.size v3 P rows (Fw.mat0 P k)) ∧ Asd (Below W0.heap.size W0 w')) (fun _ v13 _ => P - (intOf v13).toNat)
  case atStart => exact ⟨0, [], Nat.zero_le _, rfl, ⟨Mat.nil _ _ _⟩, ⟨Below.refl _ _⟩⟩
  case round =>
    obtain ⟨k, rows, hk, rfl, HM, HB1⟩ := hrel
    have hc0 : wr.cell? ⟨w.heap.size, 0, none⟩ = some (.int .i64 P) := cell_keep HB1.out (by simp [World.cell?, hg0.out])
    have hlt0 : w.heap.size < wr.heap.size := World.block_lt_of_cell? _ _ hc0
    by_cases hlt : k < P
    · go_wp2_with fail
      refine (repeat_calls 18446744073709551615 _ P hP1 (by omega) _ (by simp)).mono ?_
      rintro e w1 ⟨b, rfl, hb1, hbl, hb⟩
      have hal : wr.heap.size < (wr.alloc (.cells #[.int .u64 18446744073709551615] 47)).heap.size := by simp
      have hbw : Below wr.heap.size wr w1 := (below_al (Below.refl wr.heap.size wr) (.cells #[.int .u64 18446744073709551615] 47)).trans (hb.mono (by omega))
      have hcell : w1.cell? ⟨b, k, none⟩ = some (.int .u64 18446744073709551615) := by simp [World.cell?, hb1, hlt]
      have hfr : w1.frozen? ⟨b, k, none⟩ = false := by simp [World.frozen?, hb1]
      have hset := setCell_block (j := k) hb1 (.int .u64 0)
      have HS : Asd ((w1.setCell ⟨b, k, none⟩ (.int .u64 0)).heap[b]? = some (.cells (rowC (Fw.row0 P k)) 47 (0, 0))) := ⟨by rw [hset]; rw [rowC, Fw.row0, List.map_set, List.map_replicate, List.setIfInBounds_toArray]; rfl⟩
      have hsw : Below wr.heap.size wr (w1.setCell ⟨b, k, none⟩ (.int .u64 0)) := hbw.setCell (by simp only; omega) _
      have HMM := Asd.mk (HM.out.below hsw)
      have HB3 : Asd (Below W0.heap.size W0 (w1.setCell ⟨b, k, none⟩ (.int .u64 0))) := ⟨HB1.out.trans (hsw.mono HB1.out.size)⟩
      have HN : Asd (b ∉ rows) := ⟨fun hm => by
        obtain ⟨i, hi⟩ := List.getElem?_of_mem hm
        have := (Array.getElem?_eq_some_iff.1 (HM.out.blk i b hi).2).1
        omega⟩
      have HBS : Asd (W0.heap.size ≤ b) := ⟨by have := HB1.out.size; omega⟩
      have HSZ : Asd (w1.heap.size = (w1.setCell ⟨b, k, none⟩ (.int .u64 0)).heap.size) := ⟨by simp⟩
      have HRL : Asd (rows.length = k) := ⟨by rw [HM.out.len]; simp [Fw.mat0]⟩
      clear hb1 hb hbl hbw hsw hset hal
      go_wp2_with (at_builtin; refine print_append (w0 := W0) W0.heap.size rfl (.tmp 23) (.tmp 25) 41 70 (.slice none 0 0) 24 rfl Tryd.underlying41 info70 rfl (by omega) u3 (rows.map (rowV P)) (rowV P b) rfl (congrArg (fun n => Value.slice (some ⟨n, 0, none⟩) 1 1) HSZ.out) rfl ?c1 HB3.out HB3.out.size ?c2 ?_; (case c1 => have := HMM.out.own; rw [List.length_map]; exact this); (case c2 => rw [List.length_map, HRL.out]; omega); intro v1 w2 ho hb hg hat; have HM2 := Asd.mk (HMM.out.snoc HBS.out HS.out HN.out ho hg); have HB4 := Asd.mk hb; clear ho hb hg hat)
      go_roundw
      case measure => simp [intOf]; omega
      case rel => exact ⟨k + 1, rows ++ [b], by omega, by go_num, ⟨by rw [Fw.mat0_succ]; exact HM2.out⟩, HB4⟩
    · obtain rfl : P = k := by omega
      have HL0 := Asd.mk (HM.out.len.trans (show (Fw.mat0 P P).length = P by simp [Fw.mat0]))
      obtain ⟨g, cap, rfl, hgb, _, _⟩ := HM.out.outer (by rw [HL0.out]; omega)
      have HGB := Asd.mk hgb
      clear hgb
      have hc1 : wr.cell? ⟨w.heap.size, 1, none⟩ = some (.slice AE es.length cE) := cell_keep HB1.out (by simp [World.cell?, hg0.out])
      go_wp2_with fail
      go_loopw [31] (fun v31 w' => ∃ j : Nat, j ≤ es.length ∧ v31 = .int .i64 j ∧ Asd (Mat w' W0.heap.size (.slice (some ⟨g, 0, none⟩) rows.length cap) P rows (Fw.edges ((esOf es).take j) (Fw.mat0 P P))) ∧ Asd (Below W0.heap.size W0 w')) (fun v31 _ => es.length - (intOf v31).toNat)
      case atStart => exact ⟨0, Nat.zero_le _, rfl, HM, HB1⟩
      case round =>
        clear hc0 hc1 hlt0 HM HB1
        obtain ⟨j, hj, rfl, HM, HB1⟩ := hrel
        have hc0 : wr.cell? ⟨w.heap.size, 0, none⟩ = some (.int .i64 P) := cell_keep HB1.out (by simp [World.cell?, hg0.out])
        have hlt0 : w.heap.size < wr.heap.size := World.block_lt_of_cell? _ _ hc0
        by_cases hlt : j < es.length
        · have HBw := Asd.mk (HB.out.trans (HB1.out.mono HB.out.size))
          obtain ⟨ad, hA, c0, c1, c2⟩ := at_T78 (Kd.C_below HE.out HBw.out) (j : Int) (by omega) (by omega)
          subst hA
          have hrd : rd_T78 es (j : Int) = es[j] := by simp [rd_T78, List.getD_eq_getElem?_getD, List.getElem?_eq_getElem hlt]
          simp only [hrd, Int.toNat_natCast] at c0 c1 c2
          obtain ⟨q0, q1, q2, q3, q4, q5⟩ := HIN.out es[j] (List.getElem_mem hlt)
          have HT : Asd ((esOf es).take (j + 1) = (esOf es).take j ++ [(es[j].f0.toNat, es[j].f1.toNat, es[j].f2)]) := by
            constructor
            rw [List.take_add_one, List.getElem?_eq_getElem (by simpa [esOf] using hlt)]
            simp [esOf]
          generalize es[j] = x at *
          obtain ⟨a, ha⟩ := Int.eq_ofNat_of_zero_le q0
          obtain ⟨c, hc⟩ := Int.eq_ofNat_of_zero_le q2
          obtain ⟨x0, x1, x2⟩ := x
          simp only at *
          subst ha; subst hc
          rw [Int.toNat_natCast, Int.toNat_natCast] at HT
          clear hrd
          by_cases hne : a = c
          · subst hne
            go_wp2
            go_roundw
            case measure => simp [intOf]; omega
            case rel =>
              refine ⟨j + 1, by omega, by go_num, ⟨?_⟩, ⟨HB1.out.alloc HB1.out.size _⟩⟩
              rw [HT.out, Fw.edges_snoc]
              simp only [Fw.edge1, if_pos]
              exact HM.out.below (below_al (Below.refl _ _) _)
          · have hn1 : ((a : Int) != (c : Int)) = true := by rw [bne_iff_ne]; omega
            have hal := HL0.out
            have hrl : rows.length = P := by rw [HL0.out]
            obtain ⟨ba, hba⟩ : ∃ ba, rows[a]? = some ba := ⟨_, List.getElem?_eq_getElem (by omega)⟩
            have HMB := Asd.mk (HM.out.below (below_al (Below.refl wr.heap.size wr) (.cells #[.int .i64 a, .int .i64 c, .int .u64 x2] 78)))
            have HBB : Asd (Below W0.heap.size W0 (wr.alloc (.cells #[.int .i64 a, .int .i64 c, .int .u64 x2] 78))) := ⟨HB1.out.alloc HB1.out.size _⟩
            have HOK : Asd (Fw.Ok P (Fw.edges ((esOf es).take j) (Fw.mat0 P P))) := ⟨Fw.edges_ok _ (Fw.mat0_ok P) (fun e he => by
              obtain ⟨y, hy, rfl⟩ := List.mem_map.1 (List.mem_of_mem_take he)
              obtain ⟨p0, p1, p2, p3, p4, p5⟩ := HIN.out y hy
              exact ⟨by simp only; omega, by simp only; omega, p4, p5⟩)⟩
            have e0 : (wr.alloc (.cells #[.int .i64 a, .int .i64 c, .int .u64 x2] 78)).cell? ⟨wr.heap.size, 0, none⟩ = some (.int .i64 a) := by simp
            have e1 : (wr.alloc (.cells #[.int .i64 a, .int .i64 c, .int .u64 x2] 78)).cell? ⟨wr.heap.size, 1, none⟩ = some (.int .i64 c) := by simp
            have e2 : (wr.alloc (.cells #[.int .i64 a, .int .i64 c, .int .u64 x2] 78)).cell? ⟨wr.heap.size, 2, none⟩ = some (.int .u64 x2) := by simp
            have E0 := Asd.mk e0
            have E1 := Asd.mk e1
            have E2 := Asd.mk e2
            clear e0 e1 e2 hc0 hlt0 hal
            go_wp2_with fail
            clear c0 c1 c2
            generalize wr.alloc (.cells #[.int .i64 a, .int .i64 c, .int .u64 x2] 78) = WB at *
            obtain ⟨_, _, hv, _, _, ho⟩ := HMB.out.outer (by omega)
            cases hv
            have hin := HMB.out.inner hba (j := c) (by rw [HOK.out.rowlen (by omega)]; omega)
            have hoa := ho a ba hba
            refine region_plan (fun w' => w'.cell? ⟨wr.heap.size, 0, none⟩ = some (.int .i64 a) ∧ w'.cell? ⟨wr.heap.size, 1, none⟩ = some (.int .i64 c) ∧ w'.cell? ⟨wr.heap.size, 2, none⟩ = some (.int .u64 x2) ∧ w'.cell? ⟨g, a, none⟩ = some (.slice (some ⟨ba, 0, none⟩) P P) ∧ w'.cell? ⟨ba, c, none⟩ = some (.int .u64 (Fw.getM (Fw.edges ((esOf es).take j) (Fw.mat0 P P)) a c))) [20]
              [(0, 0), (1, 0), (2, 1), (3, 0), (4, 1), (5, 0), (6, 1), (7, 0), (8, 0), (9, 1), (10, 0), (11, 1), (12, 0), (13, 1), (14, 0), (15, 1), (16, 0), (17, 1), (18, 0), (19, 0), (20, 3)]
              (by kernel_rfl) (by kernel_rfl) (by intro _ _ d _ _ h; cases d <;> exact h) ⟨E0.out, E1.out, E2.out, hoa, hin.1⟩ ?_
            repeat (first
              | (refine plan_pure (v := ?_) (a' := ?_) rfl rfl (Or.inl ⟨rfl, ?_⟩) ?_ ?_
                 rotate_left 2
                 · intro w'
                   go_simp
                   with_reducible rfl
                 · simp only [Act.put, List.setIfInBounds_toArray, List.set_cons_zero, List.set_cons_succ]
                   rfl)
              | (refine plan_load (v := ?_) (a' := ?_) rfl rfl (Or.inl ⟨rfl, ?_⟩) ?_ ?_
                 rotate_left 2
                 · rintro w' ⟨s0, s1, s2, s3, s4⟩
                   go_simp
                   with_reducible rfl
                 · simp only [Act.put, List.setIfInBounds_toArray, List.set_cons_zero, List.set_cons_succ]
                   rfl))
            have hf := hin.2
            have hi1 := hin.1
            refine plan_store (w1 := ?_) rfl rfl rfl ?_ ?_
            rotate_left
            · go_simp
              rfl
            refine plan_nil ?_
            have HM3 := Asd.mk ((HMB.out.set (j := c) hba (min (Fw.getM (Fw.edges ((esOf es).take j) (Fw.mat0 P P)) a c) x2)).below (below_drew (Below.refl _ _)))
            have hbs := (HMB.out.blk a ba hba).1
            have HB3 : Asd (Below W0.heap.size W0 (WB.setCell ⟨ba, c, none⟩ (.int .u64 (min (Fw.getM (Fw.edges ((esOf es).take j) (Fw.mat0 P P)) a c) x2))).drew) := ⟨below_drew (HBB.out.setCell hbs _)⟩
            clear hf hi1 hin hoa ho hbs
            go_wp2
            go_roundw
            case measure => simp [intOf]; omega
            case rel =>
              refine ⟨j + 1, by omega, by go_num, ⟨?_⟩, HB3⟩
              rw [HT.out, Fw.edges_snoc]
              simp only [Fw.edge1, if_neg hne]
              exact HM3.out
        · obtain rfl : es.length = j := by omega
          have HM1 : Asd (Mat wr W0.heap.size (.slice (some ⟨g, 0, none⟩) rows.length cap) P rows (Fw.edges (esOf es) (Fw.mat0 P P))) := ⟨by
            have h1 := HM.out
            rwa [List.take_of_length_le (show (esOf es).length ≤ es.length by simp [esOf])] at h1⟩
          have HOK1 : Asd (Fw.Ok P (Fw.edges (esOf es) (Fw.mat0 P P))) := ⟨Fw.edges_ok _ (Fw.mat0_ok P) (fun e he => by
            obtain ⟨y, hy, rfl⟩ := List.mem_map.1 he
            obtain ⟨p0, p1, p2, p3, p4, p5⟩ := HIN.out y hy
            exact ⟨by simp only; omega, by simp only; omega, p4, p5⟩)⟩
          have HWY : Asd (Fw.ways P (esOf es) = Fw.kl P P (Fw.edges (esOf es) (Fw.mat0 P P))) := ⟨rfl⟩
          clear HM
          generalize Fw.edges (esOf es) (Fw.mat0 P P) = M1 at *
          go_wp2_with fail
          go_loopw [63] (fun v63 w' => ∃ k : Nat, k ≤ P ∧ v63 = .int .i64 k ∧ Asd (Mat w' W0.heap.size (.slice (some ⟨g, 0, none⟩) rows.length cap) P rows (Fw.kl P k M1)) ∧ Asd (Below W0.heap.size W0 w')) (fun v63 _ => P - (intOf v63).toNat)
          case atStart => exact ⟨0, Nat.zero_le _, rfl, HM1, HB1⟩
          case round =>
            clear hc0 hlt0 HM1 HB1
            obtain ⟨k, hk, rfl, HM, HB1⟩ := hrel
            have hc0 : wr.cell? ⟨w.heap.size, 0, none⟩ = some (.int .i64 P) := cell_keep HB1.out (by simp [World.cell?, hg0.out])
            by_cases hltk : k < P
            · have HOK := Asd.mk (Fw.kl_ok HOK1.out k hk)
              have HKS := Asd.mk (Fw.kl_succ P k M1)
              generalize Fw.kl P k M1 = M2 at *
              go_wp2_with fail
              go_loopw [68] (fun v68 w' => ∃ i : Nat, i ≤ P ∧ v68 = .int .i64 i ∧ Asd (Mat w' W0.heap.size (.slice (some ⟨g, 0, none⟩) rows.length cap) P rows (Fw.il P k i M2)) ∧ Asd (Below W0.heap.size W0 w')) (fun v68 _ => P - (intOf v68).toNat)
              case atStart => exact ⟨0, Nat.zero_le _, rfl, HM, HB1⟩
              case round =>
                clear hc0 HM HB1
                obtain ⟨i, hi, rfl, HM, HB1⟩ := hrel
                have hc0 : wr.cell? ⟨w.heap.size, 0, none⟩ = some (.int .i64 P) := cell_keep HB1.out (by simp [World.cell?, hg0.out])
                by_cases hlti : i < P
                · have HOKi := Asd.mk (Fw.il_ok HOK.out hltk i hi)
                  have HIS := Asd.mk (Fw.il_succ P k i M2)
                  generalize Fw.il P k i M2 = M3 at *
                  go_wp2_with fail
                  go_loopw [73] (fun v73 w' => ∃ j : Nat, j ≤ P ∧ v73 = .int .i64 j ∧ Asd (Mat w' W0.heap.size (.slice (some ⟨g, 0, none⟩) rows.length cap) P rows (Fw.jl k i j M3)) ∧ Asd (Below W0.heap.size W0 w')) (fun v73 _ => P - (intOf v73).toNat)
                  case atStart => exact ⟨0, Nat.zero_le _, rfl, HM, HB1⟩
                  case round =>
                    clear hc0 HM HB1
                    obtain ⟨j, hj, rfl, HM, HB1⟩ := hrel
                    by_cases hltj : j < P
                    · have HOKj := Asd.mk (Fw.jl_ok HOKi.out hltk hlti j hj)
                      have HJS := Asd.mk (Fw.jl_succ k i j M3)
                      generalize Fw.jl k i j M3 = M4 at *
                      have hrl : Asd (rows.length = P) := ⟨by rw [HL0.out]⟩
                      obtain ⟨bi, hbi⟩ : ∃ b, rows[i]? = some b := ⟨_, List.getElem?_eq_getElem (by rw [hrl.out]; omega)⟩
                      obtain ⟨bk, hbk⟩ : ∃ b, rows[k]? = some b := ⟨_, List.getElem?_eq_getElem (by rw [hrl.out]; omega)⟩
                      have HBI := Asd.mk hbi
                      have HBK := Asd.mk hbk
                      obtain ⟨_, _, hv, _, _, ho⟩ := HM.out.outer (by rw [hrl.out]; omega)
                      cases hv
                      have oi := Asd.mk (ho i bi hbi)
                      have ok := Asd.mk (ho k bk hbk)
                      have nij := Asd.mk (HM.out.inner hbi (j := j) (by rw [HOKj.out.rowlen hlti]; omega))
                      have nik := Asd.mk (HM.out.inner hbi (j := k) (by rw [HOKj.out.rowlen hlti]; omega))
                      have nkj := Asd.mk (HM.out.inner hbk (j := j) (by rw [HOKj.out.rowlen hltk]; omega))
                      have gik := HOKj.out.get hlti hltk
                      have gkj := HOKj.out.get hltk hltj
                      clear ho hbi hbk
                      have hrl' : rows.length = P := hrl.out
                      go_wp2_with fail
                      refine region_plan (fun w' => w'.cell? ⟨g, i, none⟩ = some (.slice (some ⟨bi, 0, none⟩) P P) ∧ w'.cell? ⟨g, k, none⟩ = some (.slice (some ⟨bk, 0, none⟩) P P) ∧ w'.cell? ⟨bi, j, none⟩ = some (.int .u64 (Fw.getM M4 i j)) ∧ w'.cell? ⟨bi, k, none⟩ = some (.int .u64 (Fw.getM M4 i k)) ∧ w'.cell? ⟨bk, j, none⟩ = some (.int .u64 (Fw.getM M4 k j))) [29]
                        [(0, 0), (1, 0), (2, 0), (3, 1), (4, 0), (5, 0), (6, 0), (7, 0), (8, 1), (9, 0), (10, 0), (11, 1), (12, 0), (13, 0), (14, 0), (15, 1), (16, 0), (17, 0), (18, 1), (19, 0), (20, 0), (21, 0), (22, 1), (23, 0), (24, 0), (25, 1), (26, 2), (27, 0), (28, 0), (29, 3)]
                        (by kernel_rfl) (by kernel_rfl) (by intro _ _ d _ _ h; cases d <;> exact h) ⟨oi.out, ok.out, nij.out.1, nik.out.1, nkj.out.1⟩ ?_
                      repeat (first
                        | (refine plan_pure (v := ?_) (a' := ?_) rfl rfl (Or.inl ⟨rfl, ?_⟩) ?_ ?_
                           rotate_left 2
                           · intro w'
                             go_simp
                             with_reducible rfl
                           · simp only [Act.put, List.setIfInBounds_toArray, List.set_cons_zero, List.set_cons_succ]
                             rfl)
                        | (refine plan_load (v := ?_) (a' := ?_) rfl rfl (Or.inl ⟨rfl, ?_⟩) ?_ ?_
                           rotate_left 2
                           · rintro w' ⟨s0, s1, s2, s3, s4⟩
                             go_simp
                             with_reducible rfl
                           · simp only [Act.put, List.setIfInBounds_toArray, List.set_cons_zero, List.set_cons_succ]
                             rfl))
                      refine plan_call rfl rfl Tryd.func60 (by kernel_rfl) rfl [.int .u64 (Fw.getM M4 i k), .int .u64 (Fw.getM M4 k j)] (by rfl) rfl (by rfl) ?_
                      refine (plus_calls _ _ _ gik.1 gik.2 gkj.1 gkj.2).mono ?_
                      rintro e w' ⟨rfl, rfl⟩
                      refine ⟨_, rfl, ⟨oi.out, ok.out, nij.out.1, nik.out.1, nkj.out.1⟩, ?_⟩
                      refine plan_norm (a' := ?_) ?_ ?_
                      rotate_left
                      · simp only [Act.put, List.setIfInBounds_toArray, List.set_cons_zero, List.set_cons_succ]
                        rfl
                      repeat
                        (refine plan_pure (v := ?_) (a' := ?_) rfl rfl (Or.inl ⟨rfl, ?_⟩) ?_ ?_
                         rotate_left 2
                         · intro w'
                           go_simp
                           with_reducible rfl
                         · simp only [Act.put, List.setIfInBounds_toArray, List.set_cons_zero, List.set_cons_succ]
                           rfl)
                      have hi1 := nij.out.1
                      have hf := nij.out.2
                      refine plan_store (w1 := ?_) rfl rfl rfl ?_ ?_
                      rotate_left
                      · go_simp
                        rfl
                      refine plan_nil ?_
                      have HM3 : Asd (Mat (wr.setCell ⟨bi, j, none⟩ (.int .u64 (min (Fw.getM M4 i j) (Fw.plusP (Fw.getM M4 i k) (Fw.getM M4 k j))))).drew W0.heap.size (.slice (some ⟨g, 0, none⟩) rows.length cap) P rows (Fw.jl k i (j + 1) M3)) :=
                        ⟨by rw [HJS.out]; exact (HM.out.set (j := j) HBI.out _).below (below_drew (Below.refl _ _))⟩
                      have HB3 : Asd (Below W0.heap.size W0 (wr.setCell ⟨bi, j, none⟩ (.int .u64 (min (Fw.getM M4 i j) (Fw.plusP (Fw.getM M4 i k) (Fw.getM M4 k j))))).drew) := ⟨below_drew (HB1.out.setCell (HM.out.blk i bi HBI.out).1 _)⟩
                      clear hi1 hf hrl'
                      go_wp2
                      go_roundw
                      case measure => simp [intOf]; omega
                      case rel => exact ⟨j + 1, by omega, by go_num, HM3, HB3⟩
                    · obtain rfl : P = j := by omega
                      go_wp2
                      go_roundw
                      case measure => simp [intOf]; omega
                      case rel => exact ⟨i + 1, by omega, by go_num, ⟨by rw [HIS.out]; exact HM.out⟩, HB1⟩
                · obtain rfl : P = i := by omega
                  go_wp2
                  go_roundw
                  case measure => simp [intOf]; omega
                  case rel => exact ⟨k + 1, by omega, by go_num, ⟨by rw [HKS.out]; exact HM.out⟩, HB1⟩
            · obtain rfl : P = k := by omega
              go_wp2
              go_ret
              exact ⟨_, rows, rfl, HWY.out ▸ HM.out.lower HB.out.size, HB.out.trans (HB1.out.mono HB.out.size)⟩
end Go.Proofs.YtcgjdljhpcjmeaaDoor
