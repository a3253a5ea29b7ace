import Derived.Test.YtcgjdljhpcjmeaaDoorD4
namespace Go.Proofs.YtcgjdljhpcjmeaaDoor
open Go.RowKit Go.Proofs.YtcgjdljhpcjmeaaDoorW.PrintWords Go.Proofs.YtcgjdljhpcjmeaaDoorW.PrintMore PGraphChecks

/-- What ref.Check answers with. -/
def RefO (w : World) (o : Option (Int × List (ByteArray × Int))) (e : Ending) (w' : World) : Prop :=
  ∃ v, e = .returned (.tuple #[v, .int .i64 (codeOf o)]) ∧ PlR w' (placesOf o) v ∧ Below w.heap.size w w'

set_option maxHeartbeats 4000000 in
set_option maxRecDepth 100000 in
theorem rcheck_calls (P : Int) (AE AI : Option Addr) (cE cI : Nat) (es : List S49) (ins : List Int) (w : World) (hE : Kd.C k49 w AE es.length es) (hcE : es.length ≤ cE) (hI : Kd.C (Kd.int .i64) w AI ins.length ins) (hcI : ins.length ≤ cI) (ha : EAdd (es.map conv)) :
    Calls Tryd.prog 9 #[.agg #[.int .i64 P, .slice AE es.length cE, .slice AI ins.length cI]] w fun e w' => RefO w (checkE P (es.map conv) ins) e w' := by
  have hel := hE.2.1
  have hil := hI.2.1
  have HE := Asd.mk hE
  have HI := Asd.mk hI
  have HA := Asd.mk ha
  clear hE hI ha
  have HB := Asd.mk (below_al (Below.refl w.heap.size w) (.cells #[.int .i64 P, .slice AE es.length cE, .slice AI ins.length cI] 25))
  have HG : Asd (∀ {W : World}, Below (w.heap.size + 1) (w.alloc (.cells #[.int .i64 P, .slice AE es.length cE, .slice AI ins.length cI] 25)) W → W.cell? ⟨w.heap.size, 0, none⟩ = some (.int .i64 P) ∧ W.cell? ⟨w.heap.size, 1, none⟩ = some (.slice AE es.length cE) ∧ W.cell? ⟨w.heap.size, 2, none⟩ = some (.slice AI ins.length cI)) :=
    ⟨fun {W} hb => ⟨(hb.cell (p := ⟨w.heap.size, 0, none⟩) (Nat.lt_succ_self _)).trans (by simp), (hb.cell (p := ⟨w.heap.size, 1, none⟩) (Nat.lt_succ_self _)).trans (by simp), (hb.cell (p := ⟨w.heap.size, 2, none⟩) (Nat.lt_succ_self _)).trans (by simp)⟩⟩
  have HZ0 : Asd ((w.alloc (.cells #[.int .i64 P, .slice AE es.length cE, .slice AI ins.length cI] 25)).heap.size = w.heap.size + 1) := ⟨by simp⟩
  obtain ⟨b0, b1, b2⟩ := HG.out (Below.refl _ _)
  go_enter Tryd.func9, Tryd.ntmps9
  by_cases h1 : P < 1
  · have hck : checkE P (es.map conv) ins = some (2, []) := by unfold checkE; rw [if_pos (.inl h1)]
    rw [hck]; clear hck
    go_wp2
    go_ret2
    exact ⟨_, rfl, rfl, HB.out⟩
  by_cases h2 : P > 64
  · have hck : checkE P (es.map conv) ins = some (2, []) := by unfold checkE; rw [if_pos (.inr h2)]
    rw [hck]; clear hck
    go_wp2
    go_ret2
    exact ⟨_, rfl, rfl, HB.out⟩
  have hp1 : 1 ≤ P := by omega
  have hp2 : P ≤ 64 := by omega
  by_cases h3 : es.length > 256
  · have hck : checkE P (es.map conv) ins = some (4, []) := by unfold checkE; rw [if_neg (by omega), if_pos (by rw [List.length_map]; exact h3)]
    rw [hck]; clear hck
    go_wp2
    go_ret2
    exact ⟨_, rfl, rfl, HB.out⟩
  have h3' : es.length ≤ 256 := by omega
  have hck : checkE P (es.map conv) ins = checkT P (es.map conv) ins := by unfold checkE; rw [if_neg (by omega), if_neg (by rw [List.length_map]; exact h3)]
  have HCK := Asd.mk hck
  clear hck h1 h2 h3
  obtain ⟨n, rfl⟩ := Int.eq_ofNat_of_zero_le (show 0 ≤ P by omega)
  unfold checkT at HCK
  go_wp2_with fail
  clear b0 b1 b2
  generalize w.alloc (.cells #[.int .i64 n, .slice AE es.length cE, .slice AI ins.length cI] 25) = W0 at *
  go_loopw [4] (fun v4 w' => ∃ i : Nat, i ≤ es.length ∧ v4 = .int .i64 i ∧ Asd (edgesE n (es.map conv) 0 = edgesE n ((es.map conv).drop i) i) ∧ Asd (Below (w.heap.size + 1) W0 w')) (fun v4 _ => es.length - (intOf v4).toNat)
  case atStart => exact ⟨0, Nat.zero_le _, rfl, ⟨rfl⟩, ⟨Below.refl _ _⟩⟩
  case round =>
    obtain ⟨i, hi, rfl, HD, HB1⟩ := hrel
    obtain ⟨b0, b1, b2⟩ := HG.out HB1.out
    have HBw := Asd.mk (HB.out.trans (HB1.out.mono (Nat.le_succ _)))
    by_cases hlt : i < es.length
    · obtain ⟨ad, hA, c0, c1, _⟩ := at_T49 (Kd.C_below HE.out HBw.out) (i : Int) (by omega) (by omega)
      subst hA
      have hrd : rd_T49 es (i : Int) = es[i] := by simp [rd_T49, List.getD_eq_getElem?_getD, List.getElem?_eq_getElem hlt]
      simp only [hrd, Int.toNat_natCast] at c0 c1
      have HT : Asd ((es.map conv).drop i = conv es[i] :: (es.map conv).drop (i + 1)) := ⟨by
        rw [List.drop_eq_getElem_cons (by simpa using hlt)]; simp⟩
      have hE' : edgesE n (es.map conv) 0 = if hasB n es[i].f0 = false then some (2, [(bEdge, (i : Int)), (bFrom, es[i].f0)]) else if hasB n es[i].f1 = false then some (2, [(bEdge, (i : Int)), (bTo, es[i].f1)]) else edgesE n ((es.map conv).drop (i + 1)) (i + 1) := by
        rw [HD.out, HT.out, edgesE_cons]; rfl
      generalize es[i] = x at *
      obtain ⟨x0, x1, x2⟩ := x
      simp only at c0 c1 hE'
      clear hrd HT
      have badF : ∀ x, (x < 0 ∨ (n : Int) ≤ x) → hasB n x = false := fun x h => by
        simp only [hasB, Bool.and_eq_false_iff, decide_eq_false_iff_not]; omega
      have okF : ∀ x, 0 ≤ x → x < (n : Int) → hasB n x = true := fun x h h' => by simp [hasB, h, h']
      by_cases q0 : x0 < 0
      · rw [if_pos (badF _ (.inl q0))] at hE'
        have HF : Asd (checkE n (es.map conv) ins = some (2, [(bEdge, (i : Int)), (bFrom, x0)])) := ⟨by rw [HCK.out, hE']⟩
        clear hE' badF okF HD HCK
        go_wp2
        go_ret2
        rw [HF.out]
        exact ⟨_, rfl, ⟨_, rfl, blk_new rfl⟩, HBw.out.trans (below_al (Below.refl _ _) _ |>.mono HBw.out.size)⟩
      by_cases q1 : x0 ≥ (n : Int)
      · rw [if_pos (badF _ (.inr q1))] at hE'
        have HF : Asd (checkE n (es.map conv) ins = some (2, [(bEdge, (i : Int)), (bFrom, x0)])) := ⟨by rw [HCK.out, hE']⟩
        clear hE' badF okF HD HCK
        go_wp2
        go_ret2
        rw [HF.out]
        exact ⟨_, rfl, ⟨_, rfl, blk_new rfl⟩, HBw.out.trans (below_al (Below.refl _ _) _ |>.mono HBw.out.size)⟩
      rw [if_neg (by rw [okF _ (by omega) (by omega)]; simp)] at hE'
      have q0' : 0 ≤ x0 := by omega
      have q1' : x0 < (n : Int) := by omega
      by_cases q2 : x1 < 0
      · rw [if_pos (badF _ (.inl q2))] at hE'
        have HF : Asd (checkE n (es.map conv) ins = some (2, [(bEdge, (i : Int)), (bTo, x1)])) := ⟨by rw [HCK.out, hE']⟩
        clear hE' badF okF HD HCK
        go_wp2
        go_ret2
        rw [HF.out]
        exact ⟨_, rfl, ⟨_, rfl, blk_new rfl⟩, HBw.out.trans (below_al (Below.refl _ _) _ |>.mono HBw.out.size)⟩
      by_cases q3 : x1 ≥ (n : Int)
      · rw [if_pos (badF _ (.inr q3))] at hE'
        have HF : Asd (checkE n (es.map conv) ins = some (2, [(bEdge, (i : Int)), (bTo, x1)])) := ⟨by rw [HCK.out, hE']⟩
        clear hE' badF okF HD HCK
        go_wp2
        go_ret2
        rw [HF.out]
        exact ⟨_, rfl, ⟨_, rfl, blk_new rfl⟩, HBw.out.trans (below_al (Below.refl _ _) _ |>.mono HBw.out.size)⟩
      rw [if_neg (by rw [okF _ (by omega) (by omega)]; simp)] at hE'
      have HE2 := Asd.mk hE'
      clear hE' badF okF HD
      go_wp2
      go_roundw
      case measure => simp [intOf]; omega
      case rel => exact ⟨i + 1, by omega, by go_num, HE2, HB1⟩
    · obtain rfl : es.length = i := by omega
      have HEN : Asd (edgesE n (es.map conv) 0 = none) := ⟨by
        rw [HD.out, List.drop_of_length_le (by simp)]; rfl⟩
      have HCI : Asd (checkE n (es.map conv) ins = checkI n (es.map conv) ins) := ⟨by rw [HCK.out, HEN.out]⟩
      unfold checkI at HCI
      clear HD HCK
      by_cases h4 : ins.length > 8
      · have HF : Asd (checkE n (es.map conv) ins = some (4, [])) := ⟨by rw [HCI.out, show inputsE n ins = some (4, []) from if_pos (.inl h4)]⟩
        clear HCI
        go_wp2
        go_ret2
        rw [HF.out]
        exact ⟨_, rfl, rfl, HBw.out⟩
      by_cases h5 : ins.length = 0
      · have HF : Asd (checkE n (es.map conv) ins = some (4, [])) := ⟨by rw [HCI.out, show inputsE n ins = some (4, []) from if_pos (.inr h5)]⟩
        have h5' : ((ins.length : Int)) < 1 := by omega
        clear HCI h5
        go_wp2
        go_ret2
        rw [HF.out]
        exact ⟨_, rfl, rfl, HBw.out⟩
      have h4' : ins.length ≤ 8 := by omega
      have h5' : ¬ ((ins.length : Int) < 1) := by omega
      have hI0 : inputsE n ins = inputsL n ins ins 0 := if_neg (by omega)
      rw [hI0] at HCI
      clear h4 h5 hI0
      go_wp2_with fail
      clear b0 b1 b2
      go_loopw [7] (fun v7 w' => ∃ i : Nat, i ≤ ins.length ∧ v7 = .int .i64 i ∧ Asd (inputsL n ins ins 0 = inputsL n ins (ins.drop i) i) ∧ Asd (Below (w.heap.size + 1) W0 w')) (fun v7 _ => ins.length - (intOf v7).toNat)
      case atStart => exact ⟨0, Nat.zero_le _, rfl, ⟨rfl⟩, HB1⟩
      case round =>
        clear HB1 HBw
        obtain ⟨i, hi, rfl, HD, HB1⟩ := hrel
        obtain ⟨b0, b1, b2⟩ := HG.out HB1.out
        have HBw := Asd.mk (HB.out.trans (HB1.out.mono (Nat.le_succ _)))
        by_cases hlt : i < ins.length
        · obtain ⟨ad, hA, c0⟩ := Kd.at_int (Kd.C_below HI.out HBw.out) (i : Int) (by omega) (by omega)
          subst hA
          have hrd : rd ins (i : Int) = ins[i] := by simp [rd, List.getD_eq_getElem?_getD, List.getElem?_eq_getElem hlt]
          simp only [hrd, Int.toNat_natCast] at c0
          have hdr : ins.drop i = ins[i] :: ins.drop (i + 1) := List.drop_eq_getElem_cons hlt
          have HD2 := HD.out
          rw [hdr, inputsL_cons] at HD2
          have HX : Asd (ins[i]? = some ins[i]) := ⟨List.getElem?_eq_getElem hlt⟩
          generalize ins[i] = x at *
          clear hrd hdr HD
          have badF : ∀ x, (x < 0 ∨ (n : Int) ≤ x) → hasB n x = false := fun x h => by
            simp only [hasB, Bool.and_eq_false_iff, decide_eq_false_iff_not]; omega
          have okF : ∀ x, 0 ≤ x → x < (n : Int) → hasB n x = true := fun x h h' => by simp [hasB, h, h']
          have HC0 := Asd.mk c0
          by_cases q0 : x < 0
          · rw [if_pos (badF _ (.inl q0))] at HD2
            have HF : Asd (checkE n (es.map conv) ins = some (2, [(bInput, (i : Int))])) := ⟨by rw [HCI.out, HD2]⟩
            clear HD2 badF okF HCI
            go_wp2_with fail
            refine region_plan (fun w' => w'.cell? ⟨w.heap.size, 0, none⟩ = some (.int .i64 n) ∧ w'.cell? ⟨w.heap.size, 2, none⟩ = some (.slice (some ad) ins.length cI) ∧ w'.cell? (ad.add i) = some (.int .i64 x)) []
              [(0, 0), (1, 1), (2, 0), (3, 0), (4, 1), (5, 0), (6, 0), (7, 0), (8, 1), (9, 0), (10, 0), (11, 1), (12, 0), (13, 1), (14, 0), (15, 0)]
              (by kernel_rfl) (by kernel_rfl) (by intro _ _ d _ _ h; cases d <;> exact h) ⟨b0, b2, c0⟩ ?_
            repeat (first
              | (refine plan_pure (v := ?_) (a' := ?_) rfl rfl (Or.inl ⟨rfl, ?_⟩) ?_ ?_
                 rotate_left 2
                 · intro w'
                   go_simp
                   with_reducible rfl
                 · simp only [Act.put, List.setIfInBounds_toArray, List.set_cons_zero, List.set_cons_succ]
                   rfl)
              | (refine plan_load (v := ?_) (a' := ?_) rfl rfl (Or.inl ⟨rfl, ?_⟩) ?_ ?_
                 rotate_left 2
                 · rintro w' ⟨s0, s1, s2⟩
                   go_simp
                   with_reducible rfl
                 · simp only [Act.put, List.setIfInBounds_toArray, List.set_cons_zero, List.set_cons_succ]
                   rfl))
            repeat (first
              | (refine plan_pure (v := undef) (a' := ?_) rfl rfl (Or.inr ⟨rfl, rfl⟩) ?_ ?_
                 rotate_left
                 · simp only [Act.put, List.setIfInBounds_toArray, List.set_cons_zero, List.set_cons_succ]
                   rfl)
              | (refine plan_load (v := undef) (a' := ?_) rfl rfl (Or.inr ⟨rfl, rfl⟩) ?_ ?_
                 rotate_left
                 · simp only [Act.put, List.setIfInBounds_toArray, List.set_cons_zero, List.set_cons_succ]
                   rfl))
            repeat (first
              | (refine plan_pure (v := ?_) (a' := ?_) rfl rfl (Or.inl ⟨rfl, ?_⟩) ?_ ?_
                 rotate_left 2
                 · intro w'
                   go_simp
                   with_reducible rfl
                 · simp only [Act.put, List.setIfInBounds_toArray, List.set_cons_zero, List.set_cons_succ]
                   rfl)
              | (refine plan_load (v := ?_) (a' := ?_) rfl rfl (Or.inl ⟨rfl, ?_⟩) ?_ ?_
                 rotate_left 2
                 · rintro w' ⟨s0, s1, s2⟩
                   go_simp
                   with_reducible rfl
                 · simp only [Act.put, List.setIfInBounds_toArray, List.set_cons_zero, List.set_cons_succ]
                   rfl))
            refine plan_nil ?_
            have HBd := Asd.mk (below_drew HBw.out)
            clear b0 b1 b2 c0
            generalize wr.drew = W1 at *
            go_wp2
            go_ret2
            rw [HF.out]
            exact ⟨_, rfl, ⟨_, rfl, blk_new rfl⟩, HBd.out.trans (below_al (Below.refl _ _) _ |>.mono HBd.out.size)⟩
          by_cases q1 : x ≥ (n : Int)
          · rw [if_pos (badF _ (.inr q1))] at HD2
            have HF : Asd (checkE n (es.map conv) ins = some (2, [(bInput, (i : Int))])) := ⟨by rw [HCI.out, HD2]⟩
            clear HD2 badF okF HCI
            go_wp2_with fail
            refine region_plan (fun w' => w'.cell? ⟨w.heap.size, 0, none⟩ = some (.int .i64 n) ∧ w'.cell? ⟨w.heap.size, 2, none⟩ = some (.slice (some ad) ins.length cI) ∧ w'.cell? (ad.add i) = some (.int .i64 x)) []
              [(0, 0), (1, 1), (2, 0), (3, 0), (4, 1), (5, 0), (6, 0), (7, 0), (8, 1), (9, 0), (10, 0), (11, 1), (12, 0), (13, 1), (14, 0), (15, 0)]
              (by kernel_rfl) (by kernel_rfl) (by intro _ _ d _ _ h; cases d <;> exact h) ⟨b0, b2, c0⟩ ?_
            repeat (first
              | (refine plan_pure (v := ?_) (a' := ?_) rfl rfl (Or.inl ⟨rfl, ?_⟩) ?_ ?_
                 rotate_left 2
                 · intro w'
                   go_simp
                   with_reducible rfl
                 · simp only [Act.put, List.setIfInBounds_toArray, List.set_cons_zero, List.set_cons_succ]
                   rfl)
              | (refine plan_load (v := ?_) (a' := ?_) rfl rfl (Or.inl ⟨rfl, ?_⟩) ?_ ?_
                 rotate_left 2
                 · rintro w' ⟨s0, s1, s2⟩
                   go_simp
                   with_reducible rfl
                 · simp only [Act.put, List.setIfInBounds_toArray, List.set_cons_zero, List.set_cons_succ]
                   rfl))
            simp only [show decide (x < 0) = false from decide_eq_false (by omega)]
            repeat (first
              | (refine plan_pure (v := ?_) (a' := ?_) rfl rfl (Or.inl ⟨rfl, ?_⟩) ?_ ?_
                 rotate_left 2
                 · intro w'
                   go_simp
                   with_reducible rfl
                 · simp only [Act.put, List.setIfInBounds_toArray, List.set_cons_zero, List.set_cons_succ]
                   rfl)
              | (refine plan_load (v := ?_) (a' := ?_) rfl rfl (Or.inl ⟨rfl, ?_⟩) ?_ ?_
                 rotate_left 2
                 · rintro w' ⟨s0, s1, s2⟩
                   go_simp
                   with_reducible rfl
                 · simp only [Act.put, List.setIfInBounds_toArray, List.set_cons_zero, List.set_cons_succ]
                   rfl))
            refine plan_nil ?_
            have HBd := Asd.mk (below_drew HBw.out)
            clear b0 b1 b2 c0
            generalize wr.drew = W1 at *
            go_wp2
            go_ret2
            rw [HF.out]
            exact ⟨_, rfl, ⟨_, rfl, blk_new rfl⟩, HBd.out.trans (below_al (Below.refl _ _) _ |>.mono HBd.out.size)⟩
          rw [if_neg (by rw [okF _ (by omega) (by omega)]; simp)] at HD2
          have HD3 := Asd.mk HD2
          clear HD2 badF okF
          go_wp2_with fail
          refine region_plan (fun w' => w'.cell? ⟨w.heap.size, 0, none⟩ = some (.int .i64 n) ∧ w'.cell? ⟨w.heap.size, 2, none⟩ = some (.slice (some ad) ins.length cI) ∧ w'.cell? (ad.add i) = some (.int .i64 x)) []
            [(0, 0), (1, 1), (2, 0), (3, 0), (4, 1), (5, 0), (6, 0), (7, 0), (8, 1), (9, 0), (10, 0), (11, 1), (12, 0), (13, 1), (14, 0), (15, 0)]
            (by kernel_rfl) (by kernel_rfl) (by intro _ _ d _ _ h; cases d <;> exact h) ⟨b0, b2, c0⟩ ?_
          repeat (first
            | (refine plan_pure (v := ?_) (a' := ?_) rfl rfl (Or.inl ⟨rfl, ?_⟩) ?_ ?_
               rotate_left 2
               · intro w'
                 go_simp
                 with_reducible rfl
               · simp only [Act.put, List.setIfInBounds_toArray, List.set_cons_zero, List.set_cons_succ]
                 rfl)
            | (refine plan_load (v := ?_) (a' := ?_) rfl rfl (Or.inl ⟨rfl, ?_⟩) ?_ ?_
               rotate_left 2
               · rintro w' ⟨s0, s1, s2⟩
                 go_simp
                 with_reducible rfl
               · simp only [Act.put, List.setIfInBounds_toArray, List.set_cons_zero, List.set_cons_succ]
                 rfl))
          simp only [show decide (x < 0) = false from decide_eq_false (by omega)]
          repeat (first
            | (refine plan_pure (v := ?_) (a' := ?_) rfl rfl (Or.inl ⟨rfl, ?_⟩) ?_ ?_
               rotate_left 2
               · intro w'
                 go_simp
                 with_reducible rfl
               · simp only [Act.put, List.setIfInBounds_toArray, List.set_cons_zero, List.set_cons_succ]
                 rfl)
            | (refine plan_load (v := ?_) (a' := ?_) rfl rfl (Or.inl ⟨rfl, ?_⟩) ?_ ?_
               rotate_left 2
               · rintro w' ⟨s0, s1, s2⟩
                 go_simp
                 with_reducible rfl
               · simp only [Act.put, List.setIfInBounds_toArray, List.set_cons_zero, List.set_cons_succ]
                 rfl))
          refine plan_nil ?_
          have HBd := Asd.mk (below_drew HB1.out)
          clear b0 b1 b2 c0
          generalize wr.drew = W1 at *
          go_wp2_with fail
          clear HC0
          go_loopw [8] (fun v8 w' => ∃ j : Nat, j ≤ i ∧ v8 = .int .i64 j ∧ Asd ((ins.take j).contains x = false) ∧ Asd (Below (w.heap.size + 1) W0 w')) (fun v8 _ => i - (intOf v8).toNat)
          case atStart => exact ⟨0, Nat.zero_le _, rfl, ⟨rfl⟩, HBd⟩
          case round =>
            clear HBd HBw HB1
            obtain ⟨j, hj, rfl, HN, HB1⟩ := hrel
            obtain ⟨b0, b1, b2⟩ := HG.out HB1.out
            have HBw := Asd.mk (HB.out.trans (HB1.out.mono (Nat.le_succ _)))
            by_cases hltj : j < i
            · obtain ⟨ad1, hA1, c0⟩ := Kd.at_int (Kd.C_below HI.out HBw.out) (j : Int) (by omega) (by omega)
              cases hA1
              obtain ⟨ad2, hA2, c1⟩ := Kd.at_int (Kd.C_below HI.out HBw.out) (i : Int) (by omega) (by omega)
              cases hA2
              have hjl : j < ins.length := by omega
              have hrd1 : rd ins (j : Int) = ins[j] := by simp [rd, List.getD_eq_getElem?_getD, List.getElem?_eq_getElem hjl]
              have hrd2 : rd ins (i : Int) = x := by simp [rd, List.getD_eq_getElem?_getD, HX.out]
              simp only [hrd1, Int.toNat_natCast] at c0
              simp only [hrd2, Int.toNat_natCast] at c1
              have HY : Asd (ins[j]? = some ins[j]) := ⟨List.getElem?_eq_getElem hjl⟩
              generalize ins[j] = y at *
              clear hrd1 hrd2
              by_cases hxy : y = x
              · subst hxy
                have HF : Asd (checkE n (es.map conv) ins = some (1, [(bInput, (i : Int))])) := ⟨by
                  rw [HCI.out, HD3.out, if_pos]
                  rw [List.contains_iff_mem]
                  exact List.mem_of_getElem? (i := j) (by rw [List.getElem?_take, if_pos hltj]; exact HY.out)⟩
                clear HCI HD3 HN
                go_wp2_with fail
                refine region_plan (fun w' => w'.cell? ⟨w.heap.size, 2, none⟩ = some (.slice (some ad) ins.length cI) ∧ w'.cell? (ad.add j) = some (.int .i64 y) ∧ w'.cell? (ad.add i) = some (.int .i64 y)) []
                  [(0, 0), (1, 1), (2, 0), (3, 0), (4, 1), (5, 0), (6, 1), (7, 0), (8, 0), (9, 1), (10, 0)]
                  (by kernel_rfl) (by kernel_rfl) (by intro _ _ d _ _ h; cases d <;> exact h) ⟨b2, c0, c1⟩ ?_
                repeat (first
                  | (refine plan_pure (v := ?_) (a' := ?_) rfl rfl (Or.inl ⟨rfl, ?_⟩) ?_ ?_
                     rotate_left 2
                     · intro w'
                       go_simp
                       with_reducible rfl
                     · simp only [Act.put, List.setIfInBounds_toArray, List.set_cons_zero, List.set_cons_succ]
                       rfl)
                  | (refine plan_load (v := ?_) (a' := ?_) rfl rfl (Or.inl ⟨rfl, ?_⟩) ?_ ?_
                     rotate_left 2
                     · rintro w' ⟨s0, s1, s2⟩
                       go_simp
                       with_reducible rfl
                     · simp only [Act.put, List.setIfInBounds_toArray, List.set_cons_zero, List.set_cons_succ]
                       rfl))
                refine plan_nil ?_
                have HBd := Asd.mk (below_drew HBw.out)
                clear b0 b1 b2 c0 c1
                generalize wr.drew = W2 at *
                go_wp2
                go_ret2
                rw [HF.out]
                exact ⟨_, rfl, ⟨_, rfl, blk_new rfl⟩, HBd.out.trans (below_al (Below.refl _ _) _ |>.mono HBd.out.size)⟩
              · have hxy' : (y == x) = false := by rw [beq_eq_false_iff_ne]; exact hxy
                have HN2 : Asd ((ins.take (j + 1)).contains x = false) := ⟨by
                  have h0 := HN.out
                  rw [List.take_add_one, HY.out]
                  rw [Bool.eq_false_iff, ne_eq, List.contains_iff_mem] at h0 ⊢
                  intro hm
                  rcases List.mem_append.1 hm with hm | hm
                  · exact h0 hm
                  · simp at hm; exact hxy hm.symm⟩
                clear HN
                go_wp2_with fail
                refine region_plan (fun w' => w'.cell? ⟨w.heap.size, 2, none⟩ = some (.slice (some ad) ins.length cI) ∧ w'.cell? (ad.add j) = some (.int .i64 y) ∧ w'.cell? (ad.add i) = some (.int .i64 x)) []
                  [(0, 0), (1, 1), (2, 0), (3, 0), (4, 1), (5, 0), (6, 1), (7, 0), (8, 0), (9, 1), (10, 0)]
                  (by kernel_rfl) (by kernel_rfl) (by intro _ _ d _ _ h; cases d <;> exact h) ⟨b2, c0, c1⟩ ?_
                repeat (first
                  | (refine plan_pure (v := ?_) (a' := ?_) rfl rfl (Or.inl ⟨rfl, ?_⟩) ?_ ?_
                     rotate_left 2
                     · intro w'
                       go_simp
                       with_reducible rfl
                     · simp only [Act.put, List.setIfInBounds_toArray, List.set_cons_zero, List.set_cons_succ]
                       rfl)
                  | (refine plan_load (v := ?_) (a' := ?_) rfl rfl (Or.inl ⟨rfl, ?_⟩) ?_ ?_
                     rotate_left 2
                     · rintro w' ⟨s0, s1, s2⟩
                       go_simp
                       with_reducible rfl
                     · simp only [Act.put, List.setIfInBounds_toArray, List.set_cons_zero, List.set_cons_succ]
                       rfl))
                refine plan_nil ?_
                have HBd := Asd.mk (below_drew HB1.out)
                clear b0 b1 b2 c0 c1
                go_wp2
                go_roundw
                case measure => simp [intOf]; omega
                case rel => exact ⟨j + 1, by omega, by go_num, HN2, HBd⟩
            · obtain rfl : i = j := by omega
              have HD4 : Asd (inputsL n ins ins 0 = inputsL n ins (ins.drop (i + 1)) (i + 1)) := ⟨by rw [HD3.out, if_neg (by rw [HN.out]; simp)]⟩
              clear HD3 HN
              go_wp2
              go_roundw
              case measure => simp [intOf]; omega
              case rel => exact ⟨i + 1, by omega, by go_num, HD4, HB1⟩
        · obtain rfl : ins.length = i := by omega
          have HCC : Asd (checkE n (es.map conv) ins = checkC n (es.map conv)) := ⟨by
            rw [HCI.out, HD.out, List.drop_of_length_le (Nat.le_refl _)]; rfl⟩
          have hin : EIn n (es.map conv) := EIn_of HEN.out HA.out
          have HIN := Asd.mk hin
          have HIN49 : Asd (EIn49 n es) := ⟨fun e he => hin (conv e) (List.mem_map.2 ⟨e, he, rfl⟩)⟩
          clear HCI HD hin
          go_wp2_with fail
          have T1 := closed_calls n (by omega) (by omega) AE AI cE cI es ins.length wr (Kd.C_below HE.out HBw.out) HIN49.out
          refine T1.mono ?_
          clear T1
          rintro e w1 ⟨v, rows, rfl, hm, hb⟩
          have HW : Asd (Fw.closedP n (esOf49 es) = Fw.ways n (esOf (es.map conv))) := ⟨by
            have e1 : esOf49 es = esOf (es.map conv) := by simp [esOf49, esOf, conv, List.map_map, Function.comp_def]
            rw [e1]
            exact Fw.closed_ways (ways_of HIN.out)⟩
          have hm2 := hm
          rw [HW.out] at hm2
          have HM := Asd.mk hm2
          have HB2 := Asd.mk (HB1.out.trans (hb.mono (by have := HB1.out.size; have := HZ0.out; omega)))
          have HOK := Asd.mk (Fw.ways_ok (ways_of HIN.out))
          clear hm hm2 hb b0 b1 b2 HBw HB1
          have HCW : Asd (checkC n (es.map conv) = if cycleF (Fw.ways n (esOf (es.map conv))) (es.map conv) ≥ 0 then some (3, [(bPort, cycleF (Fw.ways n (esOf (es.map conv))) (es.map conv))]) else none) := ⟨by unfold checkC; rw [Int.toNat_natCast]⟩
          clear HW
          generalize Fw.ways n (esOf (es.map conv)) = MM at *
          have HRL : Asd (rows.length = n) := ⟨by rw [HM.out.len, HOK.out.len]⟩
          obtain ⟨g, cap, rfl, _, _, hout⟩ := HM.out.outer (by rw [HRL.out]; omega)
          have HOUT := Asd.mk hout
          clear hout
          go_wp2_with fail
          go_loopw [10] (fun v10 w' => ∃ p : Nat, p ≤ n ∧ v10 = .int .i64 p ∧ Asd (∀ e ∈ es.map conv, GoodE MM e → (p : Int) ≤ e.f0) ∧ Asd (Below (w.heap.size + 1) W0 w') ∧ Asd (Below w1.heap.size w1 w')) (fun v10 _ => n - (intOf v10).toNat)
          case atStart => exact ⟨0, Nat.zero_le _, rfl, ⟨fun e he _ => (HIN.out e he).1⟩, HB2, ⟨Below.refl _ _⟩⟩
          case round =>
            clear HB2
            obtain ⟨p, hp, rfl, HL, HB1, HB3⟩ := hrel
            obtain ⟨b0, b1, b2⟩ := HG.out HB1.out
            have HBw := Asd.mk (HB.out.trans (HB1.out.mono (Nat.le_succ _)))
            by_cases hltp : p < n
            · go_wp2_with fail
              go_loopw [11] (fun v11 w' => ∃ k : Nat, k ≤ es.length ∧ v11 = .int .i64 k ∧ Asd (∀ e ∈ (es.map conv).take k, GoodE MM e → e.f0 ≠ (p : Int)) ∧ Asd (Below (w.heap.size + 1) W0 w') ∧ Asd (Below w1.heap.size w1 w')) (fun v11 _ => es.length - (intOf v11).toNat)
              case atStart => exact ⟨0, Nat.zero_le _, rfl, ⟨fun e he => by simp at he⟩, HB1, HB3⟩
              case round =>
                clear HB1 HB3 HBw b0 b1 b2
                obtain ⟨k, hk, rfl, HK, HB1, HB3⟩ := hrel
                obtain ⟨b0, b1, b2⟩ := HG.out HB1.out
                have HBw := Asd.mk (HB.out.trans (HB1.out.mono (Nat.le_succ _)))
                by_cases hltk : k < es.length
                · obtain ⟨ad, hA, c0, c1, c2⟩ := at_T49 (Kd.C_below HE.out HBw.out) (k : Int) (by omega) (by omega)
                  subst hA
                  have hrd : rd_T49 es (k : Int) = es[k] := by simp [rd_T49, List.getD_eq_getElem?_getD, List.getElem?_eq_getElem hltk]
                  simp only [hrd, Int.toNat_natCast] at c0 c1 c2
                  have hmem : conv es[k] ∈ es.map conv := List.mem_map.2 ⟨_, List.getElem_mem hltk, rfl⟩
                  have HT : Asd ((es.map conv).take (k + 1) = (es.map conv).take k ++ [conv es[k]]) := ⟨by
                    rw [List.take_add_one, List.getElem?_eq_getElem (by simpa using hltk)]
                    simp⟩
                  obtain ⟨q0, q1, q2, q3, q4, q5⟩ := HIN.out _ hmem
                  have HME := Asd.mk hmem
                  generalize es[k] = x at *
                  obtain ⟨x0, x1, x2⟩ := x
                  simp only [conv] at q0 q1 q2 q3 q4 q5 c0 c1 c2
                  obtain ⟨a, ha⟩ := Int.eq_ofNat_of_zero_le q0
                  obtain ⟨c, hc⟩ := Int.eq_ofNat_of_zero_le q2
                  subst ha; subst hc
                  clear hrd hmem
                  have HK2 : (¬ (GoodE MM (conv ⟨a, c, x2⟩) ∧ a = p)) → Asd (∀ e ∈ (es.map conv).take (k + 1), GoodE MM e → e.f0 ≠ (p : Int)) := fun hn => ⟨fun e he hg => by
                    rw [HT.out] at he
                    rcases List.mem_append.1 he with he | he
                    · exact HK.out e he hg
                    · obtain rfl := List.mem_singleton.1 he
                      intro hq
                      have hq2 : ((a : Nat) : Int) = (p : Int) := hq
                      exact hn ⟨hg, by omega⟩⟩
                  have HBA := Asd.mk (below_al (Below.refl wr.heap.size wr) (.cells #[.int .i64 a, .int .i64 c, .int .u64 x2] 49))
                  have HB1a : Asd (Below (w.heap.size + 1) W0 (wr.alloc (.cells #[.int .i64 a, .int .i64 c, .int .u64 x2] 49))) := ⟨HB1.out.alloc (by have := HB1.out.size; have := HZ0.out; omega) _⟩
                  have HB3a : Asd (Below w1.heap.size w1 (wr.alloc (.cells #[.int .i64 a, .int .i64 c, .int .u64 x2] 49))) := ⟨below_al HB3.out _⟩
                  by_cases ea : a = p
                  · have e1 : (((a : Nat) : Int) == (p : Int)) = true := by rw [beq_iff_eq]; omega
                    by_cases e2' : x2 = 0
                    · subst e2'
                      have hMc := Asd.mk (HOK.out.get (i := c) (j := p) (by omega) hltp)
                      obtain ⟨bc, hbc⟩ : ∃ bc, rows[c]? = some bc := ⟨_, List.getElem?_eq_getElem (by have := HRL.out; omega)⟩
                      have d0 := cell_keep HB3a.out (HOUT.out c bc hbc)
                      have d1 := cell_keep HB3a.out (HM.out.inner hbc (j := p) (by rw [HOK.out.rowlen (by omega)]; exact hltp)).1
                      have hcr : (c : Int) < (rows.length : Int) := by have := HRL.out; omega
                      have hpn : (p : Int) < (n : Int) := by omega
                      have HBC := Asd.mk hbc
                      clear hbc HB3
                      have HGE : Asd (GoodE MM (conv ⟨a, c, 0⟩) ↔ Fw.getM MM c p = 0) := ⟨by
                        unfold GoodE conv; simp only [Int.toNat_natCast]; rw [ea]; exact ⟨fun h => h.2, fun h => ⟨trivial, h⟩⟩⟩
                      generalize Fw.getM MM c p = z at *
                      by_cases ez : z = 0
                      · subst ez
                        have HF : Asd (checkE n (es.map conv) ins = some (3, [(bPort, (p : Int))])) := ⟨by
                          have hcy : cycleF MM (es.map conv) = (p : Int) := by
                            have := cycleF_at (M := MM) (fun e he => (HIN.out e he).1) HME.out (HGE.out.2 rfl) (fun y hy hg => by have := HL.out y hy hg; simp only [conv]; omega)
                            rw [this]; simp only [conv]; omega
                          rw [HCC.out, HCW.out, hcy, if_pos (by omega)]⟩
                        clear HK2 HK ea
                        go_wp2
                        go_ret2
                        rw [HF.out]
                        exact ⟨_, rfl, ⟨_, rfl, blk_new (by simp)⟩, below_al (below_al HBw.out _) _⟩
                      · have e3 : (z == 0) = false := by rw [beq_eq_false_iff_ne]; exact ez
                        have HK3 := HK2 (by rintro ⟨hg, _⟩; exact ez (HGE.out.1 hg))
                        clear HK2 HK ez ea
                        go_wp2
                        go_roundw
                        case measure => simp [intOf]; omega
                        case rel => exact ⟨k + 1, by omega, by go_num, HK3, HB1a, HB3a⟩
                    · have e2 : (x2 == 0) = false := by rw [beq_eq_false_iff_ne]; exact e2'
                      have HK3 := HK2 (by rintro ⟨hg, _⟩; exact e2' hg.1)
                      clear HK2 HK e2' ea
                      go_wp2
                      go_roundw
                      case measure => simp [intOf]; omega
                      case rel => exact ⟨k + 1, by omega, by go_num, HK3, HB1a, HB3a⟩
                  · have e1 : (((a : Nat) : Int) == (p : Int)) = false := by rw [beq_eq_false_iff_ne]; omega
                    have HK3 := HK2 (by rintro ⟨_, hq⟩; exact ea hq)
                    clear HK2 HK ea
                    go_wp2
                    go_roundw
                    case measure => simp [intOf]; omega
                    case rel => exact ⟨k + 1, by omega, by go_num, HK3, HB1a, HB3a⟩
                · obtain rfl : es.length = k := by omega
                  have HL2 : Asd (∀ e ∈ es.map conv, GoodE MM e → ((p + 1 : Nat) : Int) ≤ e.f0) := ⟨fun e he hg => by
                    have q1 := HL.out e he hg
                    have q2 := HK.out e (by rw [List.take_of_length_le (by simp)]; exact he) hg
                    omega⟩
                  clear HK HL
                  go_wp2
                  go_roundw
                  case measure => simp [intOf]; omega
                  case rel => exact ⟨p + 1, by omega, by go_num, HL2, HB1, HB3⟩
            · obtain rfl : n = p := by omega
              have HF : Asd (checkE n (es.map conv) ins = none) := ⟨by
                rw [HCC.out, HCW.out, if_neg]
                rw [cycleF_none (fun e he => (HIN.out e he).1) (fun e he hg => by have := HL.out e he hg; have := (HIN.out e he).2.1; omega)]
                omega⟩
              go_wp2
              go_ret2
              rw [HF.out]
              exact ⟨_, rfl, rfl, HBw.out⟩
end Go.Proofs.YtcgjdljhpcjmeaaDoor
