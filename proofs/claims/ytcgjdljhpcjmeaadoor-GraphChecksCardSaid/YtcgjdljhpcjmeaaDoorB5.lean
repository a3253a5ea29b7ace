import Derived.Test.YtcgjdljhpcjmeaaDoorB4
namespace Go.Proofs.YtcgjdljhpcjmeaaDoor
open Go.RowKit Go.Proofs.YtcgjdljhpcjmeaaDoorW.PrintWords Go.Proofs.YtcgjdljhpcjmeaaDoorW.PrintMore PGraphChecks

theorem index_l0 (l : List Int) (x : Int) (hl : l.length ≤ 9223372036854775807) : ∀ (d i : Nat), l.length - i = d → i ≤ l.length →
    ∃ r, slices_Index_int_int.l0 (d + 1) l x (l.length : Int) (i : Int) = some r ∧ (decide (r ≥ 0) = (l.drop i).contains x)
  | 0, i, hd, hi => by
    refine ⟨-1, ?_, ?_⟩
    · simp only [slices_Index_int_int.l0]
      rw [if_neg (by omega)]
    · rw [List.drop_of_length_le (by omega)]; rfl
  | d + 1, i, hd, hi => by
    have hlt : i < l.length := by omega
    have hrd : rd l (i : Int) = l[i] := by simp [rd, List.getD_eq_getElem?_getD, List.getElem?_eq_getElem hlt]
    rw [slices_Index_int_int.l0, if_pos (by omega), if_pos (by omega), if_pos (by omega), hrd]
    rw [List.drop_eq_getElem_cons hlt, List.contains_cons]
    by_cases he : x = l[i]
    · refine ⟨i, by rw [if_pos he], ?_⟩
      simp [he]
    · obtain ⟨r, hr, hc⟩ := index_l0 l x hl d (i + 1) (by omega) (by omega)
      refine ⟨r, ?_, ?_⟩
      · rw [if_neg he]
        have : wrap64 ((i : Int) + 1) = ((i + 1 : Nat) : Int) := by unfold wrap64; omega
        rw [this]; exact hr
      · rw [hc]
        simp [he]

theorem contains_calls (l : List Int) (x : Int) (A : Option Addr) (c : Nat) (w : World) (hr : Kd.C (Kd.int .i64) w A l.length l) (hc : l.length ≤ c) :
    Calls Tryd.prog 58 #[.slice A l.length c, .int .i64 x] w fun e w' => e = .returned (.bool (l.contains x)) ∧ Below w.heap.size w w' := by
  obtain ⟨r, h1, h2⟩ := index_l0 l x hr.2.1 l.length 0 rfl (Nat.zero_le _)
  refine (slices_Contains_int_int.calls (l.length + 1) A c l x (l.contains x) w hr hc ?_).mono fun e w' h => ⟨h.1, h.2.below⟩
  have h3 : slices_Index_int_int.l0 (l.length + 1) l x (l.length : Int) 0 = some r := h1
  unfold slices_Contains_int_int.f slices_Index_int_int.f
  rw [h3, Option.bind_some, h2]
  rfl

theorem kint_take {k : IntKind} {w : World} {A : Option Addr} {n : Nat} {l : List Int} (h : Kd.C (Kd.int k) w A n l) (m : Nat) (hm : m ≤ n) : Kd.C (Kd.int k) w A m (l.take m) := by
  refine ⟨by rw [List.length_take, h.1]; omega, Nat.le_trans hm h.2.1, fun h0 => ?_⟩
  obtain ⟨ad, hA, hc⟩ := h.2.2 (by omega)
  refine ⟨ad, hA, fun j p hj => hc j p ?_⟩
  rw [List.getElem?_take] at hj
  split at hj
  · exact hj
  · cases hj

def inputsL (P : Int) (ins : List Int) : List Int → Nat → Option (Int × List (ByteArray × Int))
  | [], _ => none
  | p :: r, i => if hasB P p = false then some (2, [(bInput, (i : Int))]) else if (ins.take i).contains p = true then some (1, [(bInput, (i : Int))]) else inputsL P ins r (i + 1)
def inputsE (P : Int) (ins : List Int) : Option (Int × List (ByteArray × Int)) := if ins.length > 8 ∨ ins.length = 0 then some (4, []) else inputsL P ins ins 0
theorem inputsL_cons (P : Int) (ins : List Int) (p : Int) (r : List Int) (i : Nat) : inputsL P ins (p :: r) i = if hasB P p = false then some (2, [(bInput, (i : Int))]) else if (ins.take i).contains p = true then some (1, [(bInput, (i : Int))]) else inputsL P ins r (i + 1) := rfl

set_option maxHeartbeats 2000000 in
set_option maxRecDepth 100000 in
theorem inputs_calls (P : Int) (s1 : Value) (AI : Option Addr) (cI : Nat) (ins : List Int) (w : World) (hI : Kd.C (Kd.int .i64) w AI ins.length ins) (hcI : ins.length ≤ cI) :
    Calls Tryd.prog 32 #[.agg #[.int .i64 P, s1, .slice AI ins.length cI]] w fun e w' => ∃ v, e = .returned v ∧ ErrO w' (inputsE P ins) v ∧ Below w.heap.size w w' := by
  have HI := Asd.mk hI
  have HCI := Asd.mk hcI
  have hel := hI.2.1
  clear hI hcI
  have HB := Asd.mk (below_al (Below.refl w.heap.size w) (.cells #[.int .i64 P, s1, .slice AI ins.length cI] 32))
  have hg0 : Asd ((w.alloc (.cells #[.int .i64 P, s1, .slice AI ins.length cI] 32)).heap[w.heap.size]? = some (.cells #[.int .i64 P, s1, .slice AI ins.length cI] 32 (0, 0))) := ⟨heap_alloc_new w _⟩
  by_cases hbig : ins.length > 8
  · have e4 : Asd (inputsE P ins = some (4, [])) := ⟨if_pos (.inl hbig)⟩
    go_enter Tryd.func32, Tryd.ntmps32
    go_wp2
    go_ret
    exact ⟨_, rfl, by rw [e4.out]; rfl, HB.out⟩
  by_cases hz : ins.length = 0
  · have e4 : Asd (inputsE P ins = some (4, [])) := ⟨if_pos (.inr hz)⟩
    rw [hz] at HB hg0 ⊢
    clear hz hbig hel HI HCI hg0
    go_enter Tryd.func32, Tryd.ntmps32
    go_wp2
    go_ret
    exact ⟨_, rfl, by rw [e4.out]; rfl, HB.out⟩
  have e0 : Asd (inputsE P ins = inputsL P ins ins 0) := ⟨if_neg (by omega)⟩
  have hz' : ((ins.length : Int) == 0) = false := by rw [beq_eq_false_iff_ne]; omega
  have hb' : ins.length ≤ 8 := by omega
  have hp' : 0 < ins.length := by omega
  clear hz hbig
  go_enter Tryd.func32, Tryd.ntmps32
  go_wp2_with fail
  generalize w.alloc (.cells #[.int .i64 P, s1, .slice AI ins.length cI] 32) = W0 at *
  go_loopw [19] (fun v8 w' => ∃ j : Nat, j ≤ ins.length ∧ v8 = .int .i64 j ∧ Asd (inputsL P ins (ins.drop j) j = inputsL P ins ins 0) ∧ Asd (Below W0.heap.size W0 w')) (fun v8 _ => ins.length - (intOf v8).toNat)
  case atStart => exact ⟨0, Nat.zero_le _, rfl, ⟨rfl⟩, ⟨Below.refl _ _⟩⟩
  case round =>
    obtain ⟨j, hj, rfl, HQ, HB1⟩ := hrel
    have HBw := Asd.mk (HB.out.trans (HB1.out.mono HB.out.size))
    by_cases hlt : j < ins.length
    · have hg1 : wr.heap[w.heap.size]? = some (.cells #[.int .i64 P, s1, .slice AI ins.length cI] 32 (0, 0)) := (HB1.out.block _ (Array.getElem?_eq_some_iff.1 hg0.out).1).trans hg0.out
      obtain ⟨ad, hA, c0⟩ := Kd.at_int (Kd.C_below HI.out HBw.out) (j : Int) (by omega) (by omega)
      subst hA
      have hrd : rd ins (j : Int) = ins[j] := by simp [rd, List.getD_eq_getElem?_getD, List.getElem?_eq_getElem hlt]
      simp only [hrd, Int.toNat_natCast] at c0
      have hdr : ins.drop j = ins[j] :: ins.drop (j + 1) := List.drop_eq_getElem_cons hlt
      rw [hdr] at HQ
      generalize ins[j] = x at *
      clear hrd hdr
      have g0 : wr.cell? ⟨w.heap.size, 0, none⟩ = some (.int .i64 P) := by simp [World.cell?, hg1]
      have g1 : wr.cell? ⟨w.heap.size, 1, none⟩ = some s1 := by simp [World.cell?, hg1]
      have g2 : wr.cell? ⟨w.heap.size, 2, none⟩ = some (.slice (some ad) ins.length cI) := by simp [World.cell?, hg1]
      clear hg1
      have G2 := Asd.mk g2
      have q := HQ.out
      rw [inputsL_cons] at q
      have HQ0 := Asd.mk q
      clear q
      go_wp2_with fail
      refine (has_calls P x _ _ _).mono ?_
      rintro e w1 ⟨rfl, hb⟩
      have HB4 := Asd.mk hb
      clear hb g0 g1 g2 c0
      have g2 := cell_keep HB4.out G2.out
      have q := HQ0.out
      cases hb0 : hasB P x with
      | false =>
        rw [if_pos hb0] at q
        have HQ1 := Asd.mk q
        clear q
        go_wp2_with fail
        refine (at_calls bInput (j : Int) 2 [] _ _ rfl).mono ?_
        rintro e w2 ⟨r1, rfl, he1, hb⟩
        have HB5 := Asd.mk (HB4.out.trans (hb.mono HB4.out.size))
        have HE1 := Asd.mk he1
        clear hb he1
        go_wp2
        go_ret
        exact ⟨_, rfl, by rw [e0.out, ← HQ1.out]; exact HE1.out, HBw.out.trans (HB5.out.mono HBw.out.size)⟩
      | true =>
        rw [if_neg (by rw [hb0]; simp)] at q
        have HQ1 := Asd.mk q
        clear q
        have i1 : (0 : Int) ≤ (j : Int) := by omega
        have hcI : ins.length ≤ cI := HCI.out
        have i2 : (j : Int) ≤ (cI : Int) := by omega
        have hlj : (ins.take j).length = j := by rw [List.length_take]; omega
        have HC := contains_calls (ins.take j) x (some ad) cI w1 (by rw [hlj]; exact kint_take (Kd.C_below HI.out (HBw.out.trans (HB4.out.mono HBw.out.size))) j (by omega)) (by rw [hlj]; omega)
        rw [hlj] at HC
        have HC1 := Asd.mk HC
        clear HC hlj
        go_wp2_with fail
        refine HC1.out.mono ?_
        rintro e w2 ⟨rfl, hb⟩
        have HB5 := Asd.mk (HB4.out.trans (hb.mono HB4.out.size))
        clear hb
        have q := HQ1.out
        cases hb1 : (ins.take j).contains x with
        | true =>
          rw [if_pos hb1] at q
          have HQ2 := Asd.mk q
          clear q
          go_wp2_with fail
          refine (at_calls bInput (j : Int) 1 [] _ _ rfl).mono ?_
          rintro e w3 ⟨r1, rfl, he1, hb⟩
          have HB6 := Asd.mk (HB5.out.trans (hb.mono HB5.out.size))
          have HE1 := Asd.mk he1
          clear hb he1
          go_wp2
          go_ret
          exact ⟨_, rfl, by rw [e0.out, ← HQ2.out]; exact HE1.out, HBw.out.trans (HB6.out.mono HBw.out.size)⟩
        | false =>
          rw [if_neg (by rw [hb1]; simp)] at q
          have HQ2 := Asd.mk q
          clear q
          go_wp2
          go_roundw
          case measure => simp [intOf]; omega
          case rel => exact ⟨j + 1, by omega, by go_num, HQ2, ⟨HB1.out.trans (HB5.out.mono HB1.out.size)⟩⟩
    · obtain rfl : ins.length = j := by omega
      rw [List.drop_length] at HQ
      go_wp2
      go_ret
      exact ⟨_, rfl, by rw [e0.out, ← HQ.out]; rfl, HBw.out⟩
end Go.Proofs.YtcgjdljhpcjmeaaDoor
