import Derived.Test.YtcgjdljhpcjmeaaDoorB3
namespace Go.Proofs.YtcgjdljhpcjmeaaDoor
open Go.RowKit Go.Proofs.YtcgjdljhpcjmeaaDoorW.PrintWords Go.Proofs.YtcgjdljhpcjmeaaDoorW.PrintMore PGraphChecks

/-- An error, or none. -/
def ErrO (w : World) : Option (Int × List (ByteArray × Int)) → Value → Prop
  | none, v => v = .nilIface
  | some (k, l), v => ErrAt w k l v
theorem ErrO.below {w w1 : World} (hb : Below w.heap.size w w1) {o : Option (Int × List (ByteArray × Int))} {v : Value} (h : ErrO w o v) : ErrO w1 o v := by
  cases o with
  | none => exact h
  | some p => exact ErrAt.below hb h

def hasB (P p : Int) : Bool := decide (0 ≤ p) && decide (p < P)
theorem has_calls (P p : Int) (s1 s2 : Value) (w : World) :
    Calls Tryd.prog 57 #[.agg #[.int .i64 P, s1, s2], .int .i64 p] w fun e w' => e = .returned (.bool (hasB P p)) ∧ Below w.heap.size w w' := by
  unfold hasB
  by_cases h : 0 ≤ p
  · rw [decide_eq_true h, Bool.true_and]
    go_enter Tryd.func57, Tryd.ntmps57
    go_wp2
    go_ret
    exact ⟨rfl, below_al (Below.refl _ _) _⟩
  · rw [decide_eq_false h, Bool.false_and]
    have h' : p < 0 := by omega
    clear h
    go_enter Tryd.func57, Tryd.ntmps57
    go_wp2
    go_ret
    exact ⟨rfl, below_al (Below.refl _ _) _⟩

def bEdge : ByteArray := ⟨#[101, 100, 103, 101]⟩
def bFrom : ByteArray := ⟨#[102, 114, 111, 109]⟩
def bTo : ByteArray := ⟨#[116, 111]⟩
def bInput : ByteArray := ⟨#[105, 110, 112, 117, 116]⟩
def bPort : ByteArray := ⟨#[112, 111, 114, 116]⟩
def edgesE (P : Int) : List S78 → Nat → Option (Int × List (ByteArray × Int))
  | [], _ => none
  | e :: r, i => if hasB P e.f0 = false then some (2, [(bEdge, (i : Int)), (bFrom, e.f0)]) else if hasB P e.f1 = false then some (2, [(bEdge, (i : Int)), (bTo, e.f1)]) else edgesE P r (i + 1)

theorem edgesE_cons (P : Int) (e : S78) (r : List S78) (i : Nat) : edgesE P (e :: r) i = if hasB P e.f0 = false then some (2, [(bEdge, (i : Int)), (bFrom, e.f0)]) else if hasB P e.f1 = false then some (2, [(bEdge, (i : Int)), (bTo, e.f1)]) else edgesE P r (i + 1) := rfl

set_option maxHeartbeats 2000000 in
set_option maxRecDepth 100000 in
theorem edges_calls (P : Int) (AE : Option Addr) (cE : Nat) (es : List S78) (s2 : Value) (w : World) (hE : Kd.C k78 w AE es.length es) :
    Calls Tryd.prog 31 #[.agg #[.int .i64 P, .slice AE es.length cE, s2]] w fun e w' => ∃ v, e = .returned v ∧ ErrO w' (edgesE P es 0) v ∧ Below w.heap.size w w' := by
  have HE := Asd.mk hE
  have hel := hE.2.1
  clear hE
  have HB := Asd.mk (below_al (Below.refl w.heap.size w) (.cells #[.int .i64 P, .slice AE es.length cE, s2] 32))
  have hg0 : Asd ((w.alloc (.cells #[.int .i64 P, .slice AE es.length cE, s2] 32)).heap[w.heap.size]? = some (.cells #[.int .i64 P, .slice AE es.length cE, s2] 32 (0, 0))) := ⟨heap_alloc_new w _⟩
  go_enter Tryd.func31, Tryd.ntmps31
  go_wp2_with fail
  generalize w.alloc (.cells #[.int .i64 P, .slice AE es.length cE, s2] 32) = W0 at *
  go_loopw [8] (fun v8 w' => ∃ j : Nat, j ≤ es.length ∧ v8 = .int .i64 j ∧ Asd (edgesE P (es.drop j) j = edgesE P es 0) ∧ Asd (Below W0.heap.size W0 w')) (fun v8 _ => es.length - (intOf v8).toNat)
  case atStart => exact ⟨0, Nat.zero_le _, rfl, ⟨rfl⟩, ⟨Below.refl _ _⟩⟩
  case round =>
    obtain ⟨j, hj, rfl, HQ, HB1⟩ := hrel
    have HBw := Asd.mk (HB.out.trans (HB1.out.mono HB.out.size))
    by_cases hlt : j < es.length
    · have hg1 : wr.heap[w.heap.size]? = some (.cells #[.int .i64 P, .slice AE es.length cE, s2] 32 (0, 0)) := (HB1.out.block _ (Array.getElem?_eq_some_iff.1 hg0.out).1).trans hg0.out
      have hlt0 : w.heap.size < wr.heap.size := (Array.getElem?_eq_some_iff.1 hg1).1
      obtain ⟨ad, hA, c0, c1, c2⟩ := at_T78 (Kd.C_below HE.out HBw.out) (j : Int) (by omega) (by omega)
      subst hA
      have hrd : rd_T78 es (j : Int) = es[j] := by simp [rd_T78, List.getD_eq_getElem?_getD, List.getElem?_eq_getElem hlt]
      simp only [hrd, Int.toNat_natCast] at c0 c1 c2
      have hdr : es.drop j = es[j] :: es.drop (j + 1) := List.drop_eq_getElem_cons hlt
      rw [hdr] at HQ
      generalize es[j] = x at *
      clear hrd hdr
      have g0 : wr.cell? ⟨w.heap.size, 0, none⟩ = some (.int .i64 P) := by simp [World.cell?, hg1]
      have g1 : wr.cell? ⟨w.heap.size, 1, none⟩ = some (.slice (some ad) es.length cE) := by simp [World.cell?, hg1]
      have g2 : wr.cell? ⟨w.heap.size, 2, none⟩ = some s2 := by simp [World.cell?, hg1]
      clear hg1
      have HB2 := Asd.mk (HB1.out.alloc HB1.out.size (.cells #[.int .i64 x.f0, .int .i64 x.f1, .int .u64 x.f2] 78))
      have HB3 := Asd.mk (below_al (Below.refl wr.heap.size wr) (.cells #[.int .i64 x.f0, .int .i64 x.f1, .int .u64 x.f2] 78))
      have hE0 : Asd (Kd.C k78 wr (some ad) es.length es) := ⟨Kd.C_below HE.out HBw.out⟩
      go_wp2_with fail
      refine (has_calls P x.f0 _ _ _).mono ?_
      rintro e w1 ⟨rfl, hb⟩
      have HB4 := Asd.mk (HB3.out.trans (hb.mono HB3.out.size))
      have e0 := cell_keep hb (a := ⟨wr.heap.size, 0, none⟩) (v := .int .i64 x.f0) (by simp)
      have e1 := cell_keep hb (a := ⟨wr.heap.size, 1, none⟩) (v := .int .i64 x.f1) (by simp)
      have e2 := cell_keep hb (a := ⟨wr.heap.size, 2, none⟩) (v := .int .u64 x.f2) (by simp)
      have E0 := Asd.mk e0
      have E1 := Asd.mk e1
      have G0 := Asd.mk (cell_keep HB4.out g0)
      have G1 := Asd.mk (cell_keep HB4.out g1)
      have G2 := Asd.mk (cell_keep HB4.out g2)
      clear hb g0 g1 g2 c0 c1 c2 hlt0
      have g0 := G0.out
      have g1 := G1.out
      have g2 := G2.out
      have q := HQ.out
      rw [edgesE_cons] at q
      cases hb0 : hasB P x.f0 with
      | false =>
        rw [if_pos hb0] at q
        have HQ1 := Asd.mk q
        clear q
        go_wp2_with fail
        refine (at_calls bFrom x.f0 2 [] _ _ rfl).mono ?_
        rintro e w2 ⟨r1, rfl, he1, hb⟩
        have HB5 := Asd.mk (HB4.out.trans (hb.mono HB4.out.size))
        have HE1 := Asd.mk he1
        clear hb he1
        go_wp2_with fail
        refine (at_calls bEdge (j : Int) 2 [(bFrom, x.f0)] _ _ HE1.out).mono ?_
        rintro e w3 ⟨r2, rfl, he2, hb⟩
        have HB6 := Asd.mk (HB5.out.trans (hb.mono HB5.out.size))
        have HE2 := Asd.mk he2
        clear hb he2
        go_wp2
        go_ret
        exact ⟨_, rfl, by rw [← HQ1.out]; exact HE2.out, HBw.out.trans (HB6.out.mono HBw.out.size)⟩
      | true =>
        rw [if_neg (by rw [hb0]; simp)] at q
        have HQ1 := Asd.mk q
        clear q
        go_wp2_with fail
        refine (has_calls P x.f1 _ _ _).mono ?_
        rintro e w2 ⟨rfl, hb⟩
        have HB5 := Asd.mk (HB4.out.trans (hb.mono HB4.out.size))
        have e1 := cell_keep hb E1.out
        clear hb
        have q := HQ1.out
        cases hb1 : hasB P x.f1 with
        | false =>
          rw [if_pos hb1] at q
          have HQ2 := Asd.mk q
          clear q
          go_wp2_with fail
          refine (at_calls bTo x.f1 2 [] _ _ rfl).mono ?_
          rintro e w3 ⟨r1, rfl, he1, hb⟩
          have HB6 := Asd.mk (HB5.out.trans (hb.mono HB5.out.size))
          have HE1 := Asd.mk he1
          clear hb he1
          go_wp2_with fail
          refine (at_calls bEdge (j : Int) 2 [(bTo, x.f1)] _ _ HE1.out).mono ?_
          rintro e w4 ⟨r2, rfl, he2, hb⟩
          have HB7 := Asd.mk (HB6.out.trans (hb.mono HB6.out.size))
          have HE2 := Asd.mk he2
          clear hb he2
          go_wp2
          go_ret
          exact ⟨_, rfl, by rw [← HQ2.out]; exact HE2.out, HBw.out.trans (HB7.out.mono HBw.out.size)⟩
        | true =>
          rw [if_neg (by rw [hb1]; simp)] at q
          have HQ2 := Asd.mk q
          clear q
          go_wp2
          go_roundw
          case measure => simp [intOf]; omega
          case rel => exact ⟨j + 1, by omega, by go_num, HQ2, ⟨HB1.out.trans (HB5.out.mono HB1.out.size)⟩⟩
    · obtain rfl : es.length = j := by omega
      rw [List.drop_length] at HQ
      go_wp2
      go_ret
      exact ⟨_, rfl, by rw [← HQ.out]; rfl, HBw.out⟩
end Go.Proofs.YtcgjdljhpcjmeaaDoor
