import Derived.Test.YtcgjdljhpcjmeaaDoorB5
namespace Go.Proofs.YtcgjdljhpcjmeaaDoor
open Go.RowKit Go.Proofs.YtcgjdljhpcjmeaaDoorW.PrintWords Go.Proofs.YtcgjdljhpcjmeaaDoorW.PrintMore PGraphChecks

theorem Mat.reads {w : World} {base P : Nat} {v : Value} {rows : List Nat} {M : List (List Int)} (h : Mat w base v P rows M) (hok : Fw.Ok P M) (hP : 0 < P) (hP2 : P ≤ 64) :
    ∃ A c, v = .slice A M.length c ∧ M.length ≤ c ∧ Kd.C (Kd.slice 47 (Kd.int .u64)) w A M.length M := by
  have hrl : rows.length = M.length := h.len
  have hml : M.length = P := hok.len
  obtain ⟨g, cap, hv, _, _, hrow⟩ := h.outer (by omega)
  have hcap : rows.length ≤ cap := by
    rcases h.own.2 with ⟨hv', _⟩ | ⟨g', cap', cur, hv', _, _, hle, _⟩
    · rw [hv] at hv'; cases hv'
    · rw [hv] at hv'; cases hv'; exact hle
  refine ⟨some ⟨g, 0, none⟩, cap, by rw [hv, hrl], by omega, rfl, by omega, fun _ => ⟨⟨g, 0, none⟩, rfl, fun j r hj => ?_⟩⟩
  have hjl : j < M.length := (List.getElem?_eq_some_iff.1 hj).1
  obtain ⟨b, hb⟩ : ∃ b, rows[j]? = some b := ⟨_, List.getElem?_eq_getElem (by omega)⟩
  have hr : M.getD j [] = r := by simp [List.getD_eq_getElem?_getD, hj]
  have hrP : r.length = P := by rw [← hr]; exact hok.rowlen (by omega)
  refine ⟨[.slice (some ⟨b, 0, none⟩) P P], rfl, ⟨some ⟨b, 0, none⟩, P, by rw [hrP], by omega, rfl, by omega, fun _ => ⟨⟨b, 0, none⟩, rfl, fun i p hi => ?_⟩⟩, fun i u hu => ?_⟩
  · have hil : i < r.length := (List.getElem?_eq_some_iff.1 hi).1
    refine ⟨[.int .u64 p], rfl, rfl, fun q u hu => ?_⟩
    obtain rfl : q = 0 := by have := (List.getElem?_eq_some_iff.1 hu).1; simp at this; omega
    cases hu
    have := (h.inner hb (j := i) (by rw [hr]; exact hil)).1
    rw [add_plain]
    simp only [Kd.int, Kd.scalar, Nat.mul_one, Nat.add_zero]
    rw [this, Fw.getM, hr]
    simp [List.getD_eq_getElem?_getD, hi]
  · obtain rfl : i = 0 := by have := (List.getElem?_eq_some_iff.1 hu).1; simp at this; omega
    cases hu
    rw [add_plain]
    simp only [Kd.slice, Nat.mul_one, Nat.add_zero]
    exact hrow j b hb

/-- The least port from which a way round takes no time. -/
def cyc1 (M : List (List Int)) (least : Int) (e : S78) : Int := if e.f2 = 0 ∧ Fw.getM M e.f1.toNat e.f0.toNat = 0 ∧ (least < 0 ∨ e.f0 < least) then e.f0 else least
def cycleF (M : List (List Int)) (es : List S78) : Int := es.foldl (cyc1 M) (-1)

theorem cycle_l0 (P : Nat) (M : List (List Int)) (es : List S78) (hel : es.length ≤ 9223372036854775807) (hin : EIn P es) (hok : Fw.Ok P M) : ∀ (d i : Nat) (least : Int), es.length - i = d → i ≤ es.length →
    graph_Graph_cycle.l0 (d + 1) M least es (es.length : Int) (i : Int) = some ((es.drop i).foldl (cyc1 M) least)
  | 0, i, least, hd, hi => by
    rw [graph_Graph_cycle.l0, if_neg (by omega), List.drop_of_length_le (by omega)]; rfl
  | d + 1, i, least, hd, hi => by
    have hlt : i < es.length := by omega
    have hrd : rd_T78 es (i : Int) = es[i] := by simp [rd_T78, List.getD_eq_getElem?_getD, List.getElem?_eq_getElem hlt]
    obtain ⟨q0, q1, q2, q3, q4, q5⟩ := hin es[i] (List.getElem_mem hlt)
    have hw : wrap64 ((i : Int) + 1) = ((i + 1 : Nat) : Int) := by unfold wrap64; omega
    have ih := fun l => cycle_l0 P M es hel hin hok d (i + 1) l (by omega) (by omega)
    rw [graph_Graph_cycle.l0, if_pos (by omega), if_pos (by omega), if_pos (by omega), hrd, hw, List.drop_eq_getElem_cons hlt, List.foldl_cons]
    generalize es[i] = x at *
    have hl1 : (M.length : Int) = P := by rw [hok.len]
    have hr1 : rd_L4 M x.f1 = M.getD x.f1.toNat [] := rfl
    have hr2 : (rd_L4 M x.f1).length = P := by rw [hr1]; exact hok.rowlen (by omega)
    have hr3 : rd (rd_L4 M x.f1) x.f0 = Fw.getM M x.f1.toNat x.f0.toNat := rfl
    unfold cyc1
    by_cases h1 : x.f2 = 0
    · rw [if_pos h1, if_pos q2, if_pos (by omega), if_pos q0, if_pos (by omega), hr3]
      by_cases h2 : Fw.getM M x.f1.toNat x.f0.toNat = 0
      · rw [if_pos h2]
        by_cases h3 : least < 0
        · rw [if_pos h3, if_pos ⟨h1, h2, .inl h3⟩]; exact ih _
        · rw [if_neg h3]
          by_cases h4 : x.f0 < least
          · rw [if_pos h4, if_pos ⟨h1, h2, .inr h4⟩]; exact ih _
          · rw [if_neg h4, if_neg (by rintro ⟨_, _, h | h⟩ <;> omega)]; exact ih _
      · rw [if_neg h2, if_neg (fun h => h2 h.2.1)]; exact ih _
    · rw [if_neg h1, if_neg (fun h => h1 h.1)]; exact ih _

theorem cycle_calls (P : Nat) (AE AI A1 : Option Addr) (cE cI c1 : Nat) (es : List S78) (ins : List Int) (M : List (List Int)) (w : World) (hE : Kd.C k78 w AE es.length es) (hcE : es.length ≤ cE)
    (hI : Kd.C (Kd.int .i64) w AI ins.length ins) (hcI : ins.length ≤ cI) (hM : Kd.C (Kd.slice 47 (Kd.int .u64)) w A1 M.length M) (hc1 : M.length ≤ c1) (hin : EIn P es) (hok : Fw.Ok P M) :
    Calls Tryd.prog 33 #[.agg #[.int .i64 P, .slice AE es.length cE, .slice AI ins.length cI], .slice A1 M.length c1] w fun e w' => e = .returned (.int .i64 (cycleF M es)) ∧ Below w.heap.size w w' :=
  graph_Graph_cycle.calls (es.length + 1) P AE cE es AI cI ins A1 c1 M (cycleF M es) w hE hcE hI hcI hM hc1 (by
    unfold graph_Graph_cycle.f
    exact cycle_l0 P M es hE.2.1 hin hok es.length 0 (-1) rfl (Nat.zero_le _))

def checkC (P : Int) (es : List S78) : Option (Int × List (ByteArray × Int)) :=
  if cycleF (Fw.ways P.toNat (esOf es)) es ≥ 0 then some (3, [(bPort, cycleF (Fw.ways P.toNat (esOf es)) es)]) else none
def checkI (P : Int) (es : List S78) (ins : List Int) : Option (Int × List (ByteArray × Int)) :=
  match inputsE P ins with
  | some e => some e
  | none => checkC P es
def checkT (P : Int) (es : List S78) (ins : List Int) : Option (Int × List (ByteArray × Int)) :=
  match edgesE P es 0 with
  | some e => some e
  | none => checkI P es ins
def checkE (P : Int) (es : List S78) (ins : List Int) : Option (Int × List (ByteArray × Int)) :=
  if P < 1 ∨ P > 64 then some (2, []) else if es.length > 256 then some (4, []) else checkT P es ins

/-- The adds are numbers of 64 bits. -/
def EAdd (es : List S78) : Prop := ∀ e ∈ es, 0 ≤ e.f2 ∧ e.f2 ≤ Fw.never
theorem hasB_iff {P p : Int} : hasB P p = true ↔ 0 ≤ p ∧ p < P := by simp [hasB]
theorem edgesE_none {P : Int} : ∀ {es : List S78} {i : Nat}, edgesE P es i = none → ∀ e ∈ es, 0 ≤ e.f0 ∧ e.f0 < P ∧ 0 ≤ e.f1 ∧ e.f1 < P
  | [], _, _, e, he => by simp at he
  | x :: r, i, h, e, he => by
    rw [edgesE_cons] at h
    by_cases h0 : hasB P x.f0 = false
    · rw [if_pos h0] at h; cases h
    · by_cases h1 : hasB P x.f1 = false
      · rw [if_neg h0, if_pos h1] at h; cases h
      · rw [if_neg h0, if_neg h1] at h
        have a0 := hasB_iff.1 (Bool.of_not_eq_false h0)
        have a1 := hasB_iff.1 (Bool.of_not_eq_false h1)
        rcases List.mem_cons.1 he with rfl | he
        · exact ⟨a0.1, a0.2, a1.1, a1.2⟩
        · exact edgesE_none h e he
theorem EIn_of {P : Nat} {es : List S78} (h : edgesE P es 0 = none) (ha : EAdd es) : EIn P es := fun e he => by
  obtain ⟨h0, h1, h2, h3⟩ := edgesE_none h e he
  exact ⟨h0, h1, h2, h3, (ha e he).1, (ha e he).2⟩

/-- What has been checked is a graph. -/
theorem checkE_none {P : Int} {es : List S78} {ins : List Int} (h : checkE P es ins = none) : 1 ≤ P ∧ P ≤ 64 ∧ edgesE P es 0 = none := by
  unfold checkE at h
  split at h
  · cases h
  · split at h
    · cases h
    · refine ⟨by omega, by omega, ?_⟩
      unfold checkT at h
      split at h
      · cases h
      · assumption

set_option maxHeartbeats 2000000 in
set_option maxRecDepth 100000 in
theorem check_calls (P : Int) (AE AI : Option Addr) (cE cI : Nat) (es : List S78) (ins : List Int) (w : World) (hE : Kd.C k78 w AE es.length es) (hcE : es.length ≤ cE) (hI : Kd.C (Kd.int .i64) w AI ins.length ins) (hcI : ins.length ≤ cI) (ha : EAdd es) :
    Calls Tryd.prog 7 #[.agg #[.int .i64 P, .slice AE es.length cE, .slice AI ins.length cI]] w fun e w' => ∃ v, e = .returned v ∧ ErrO w' (checkE P es ins) v ∧ Below w.heap.size w w' := by
  have HE := Asd.mk hE
  have HI := Asd.mk hI
  have HCI := Asd.mk hcI
  have HCE := Asd.mk hcE
  have HA := Asd.mk ha
  have hel := hE.2.1
  clear hE hI hcI ha hcE
  have HB := Asd.mk (below_al (Below.refl w.heap.size w) (.cells #[.int .i64 P, .slice AE es.length cE, .slice AI ins.length cI] 32))
  have hg0 : Asd ((w.alloc (.cells #[.int .i64 P, .slice AE es.length cE, .slice AI ins.length cI] 32)).heap[w.heap.size]? = some (.cells #[.int .i64 P, .slice AE es.length cE, .slice AI ins.length cI] 32 (0, 0))) := ⟨heap_alloc_new w _⟩
  have hg : ∀ {W : World}, Below (w.alloc (.cells #[.int .i64 P, .slice AE es.length cE, .slice AI ins.length cI] 32)).heap.size (w.alloc (.cells #[.int .i64 P, .slice AE es.length cE, .slice AI ins.length cI] 32)) W → W.cell? ⟨w.heap.size, 0, none⟩ = some (.int .i64 P) ∧ W.cell? ⟨w.heap.size, 1, none⟩ = some (.slice AE es.length cE) ∧ W.cell? ⟨w.heap.size, 2, none⟩ = some (.slice AI ins.length cI) := by
    intro W hb
    exact ⟨cell_keep hb (by simp), cell_keep hb (by simp), cell_keep hb (by simp)⟩
  have HG := Asd.mk @hg
  clear hg
  by_cases hp1 : P < 1
  · have q : Asd (checkE P es ins = some (2, [])) := ⟨if_pos (.inl hp1)⟩
    go_enter Tryd.func7, Tryd.ntmps7
    go_wp2
    go_ret
    exact ⟨_, rfl, by rw [q.out]; rfl, HB.out⟩
  by_cases hp2 : P > 64
  · have q : Asd (checkE P es ins = some (2, [])) := ⟨if_pos (.inr hp2)⟩
    go_enter Tryd.func7, Tryd.ntmps7
    go_wp2
    go_ret
    exact ⟨_, rfl, by rw [q.out]; rfl, HB.out⟩
  have Q0 : Asd (checkE P es ins = if es.length > 256 then some (4, []) else checkT P es ins) := ⟨if_neg (by omega)⟩
  by_cases hp3 : es.length > 256
  · have q : Asd (checkE P es ins = some (4, [])) := ⟨by rw [Q0.out, if_pos hp3]⟩
    go_enter Tryd.func7, Tryd.ntmps7
    go_wp2
    go_ret
    exact ⟨_, rfl, by rw [q.out]; rfl, HB.out⟩
  rw [if_neg hp3] at Q0
  go_enter Tryd.func7, Tryd.ntmps7
  go_wp2_with fail
  generalize w.alloc (.cells #[.int .i64 P, .slice AE es.length cE, .slice AI ins.length cI] 32) = W0 at *
  refine (edges_calls P AE cE es _ _ (Kd.C_below HE.out HB.out)).mono ?_
  rintro e w1 ⟨v1, rfl, hv1, hb⟩
  have HB1 := Asd.mk hb
  clear hb
  cases hed : edgesE P es 0 with
  | some q =>
    obtain ⟨ti, ui, rfl⟩ : ∃ t u, v1 = .iface t u := by rw [hed] at hv1; exact ErrAt.iface hv1
    have HV := Asd.mk hv1
    have q : Asd (checkT P es ins = edgesE P es 0) := ⟨by unfold checkT; rw [hed]⟩
    clear hv1 hed
    go_wp2
    go_ret
    exact ⟨_, rfl, by rw [Q0.out, q.out]; exact HV.out, HB.out.trans (HB1.out.mono HB.out.size)⟩
  | none =>
    rw [hed] at hv1
    obtain rfl : v1 = .nilIface := hv1
    have HED := Asd.mk hed
    have Q1 : Asd (checkT P es ins = checkI P es ins) := ⟨by unfold checkT; rw [hed]⟩
    clear hed
    obtain ⟨g0, g1, g2⟩ := HG.out HB1.out
    have HCI' := HCI.out
    go_wp2_with fail
    refine (inputs_calls P _ AI cI ins _ (Kd.C_below (Kd.C_below HI.out HB.out) HB1.out) HCI.out).mono ?_
    rintro e w2 ⟨v2, rfl, hv2, hb⟩
    have HB2 := Asd.mk (HB1.out.trans (hb.mono HB1.out.size))
    clear hb g0 g1 g2 HCI'
    cases hin : inputsE P ins with
    | some q =>
      obtain ⟨ti, ui, rfl⟩ : ∃ t u, v2 = .iface t u := by rw [hin] at hv2; exact ErrAt.iface hv2
      have HV := Asd.mk hv2
      have q : Asd (checkI P es ins = inputsE P ins) := ⟨by unfold checkI; rw [hin]⟩
      clear hv2 hin
      go_wp2
      go_ret
      exact ⟨_, rfl, by rw [Q0.out, Q1.out, q.out]; exact HV.out, HB.out.trans (HB2.out.mono HB.out.size)⟩
    | none =>
      rw [hin] at hv2
      obtain rfl : v2 = .nilIface := hv2
      have Q2 : Asd (checkI P es ins = checkC P es) := ⟨by unfold checkI; rw [hin]⟩
      clear hin
      obtain ⟨n, rfl⟩ := Int.eq_ofNat_of_zero_le (show 0 ≤ P by omega)
      have HIN := Asd.mk (EIn_of HED.out HA.out)
      go_wp2_with fail
      have HG2 := Asd.mk (HG.out HB2.out)
      have hS0 : Asd (∀ W, Below w2.heap.size w2 W → W.cell? ⟨w.heap.size, 0, none⟩ = some (.int .i64 n) ∧ W.cell? ⟨w.heap.size, 1, none⟩ = some (.slice AE es.length cE) ∧ W.cell? ⟨w.heap.size, 2, none⟩ = some (.slice AI ins.length cI) ∧ Asd (Below w2.heap.size w2 W)) :=
        ⟨fun W hb => by obtain ⟨h0, h1, h2⟩ := HG.out (HB2.out.trans (hb.mono HB2.out.size)); exact ⟨h0, h1, h2, ⟨hb⟩⟩⟩
      have HE2 : Asd (∀ W, Below w2.heap.size w2 W → Kd.C k78 W AE es.length es ∧ Kd.C (Kd.int .i64) W AI ins.length ins) := ⟨fun W hb => by
        have := HB.out.trans ((HB2.out.trans (hb.mono HB2.out.size)).mono HB.out.size)
        exact ⟨Kd.C_below HE.out this, Kd.C_below HI.out this⟩⟩
      have hok := Asd.mk (Fw.ways_ok (P := n) (es := esOf es) (fun e he => by
        obtain ⟨y, hy, rfl⟩ := List.mem_map.1 he
        obtain ⟨p0, p1, p2, p3, p4, p5⟩ := HIN.out y hy
        exact ⟨by simp only; omega, by simp only; omega, p4, p5⟩))
      go_region_held3 (fun w' => w'.cell? ⟨w.heap.size, 0, none⟩ = some (.int .i64 n) ∧ w'.cell? ⟨w.heap.size, 1, none⟩ = some (.slice AE es.length cE) ∧ w'.cell? ⟨w.heap.size, 2, none⟩ = some (.slice AI ins.length cI) ∧ Asd (Below w2.heap.size w2 w'))
        (first | exact hS0.out _ (below_drew (Below.refl _ _)) | exact hS0.out _ (by assumption) | exact hS0.out _ (below_step (‹_ ∧ _ ∧ _ ∧ Asd (Below _ _ _)›.2.2.2.out) ‹Below _ _ _›))
        (first
          | (go_at_call 34; refine (ways_calls n (by omega) (by omega) AE AI cE cI es ins.length _ (HE2.out _ (‹_ ∧ _ ∧ _ ∧ Asd (Below _ _ _)›.2.2.2.out)).1 HIN.out).mono ?_; rintro e w3 ⟨v, rows, rfl, hm, hb⟩; obtain ⟨A, c, rfl, hc, hC⟩ := hm.reads hok.out (by omega) (by omega); have HC3 := Asd.mk hC; have HC4 := Asd.mk hc; clear hm hc hC)
          | (go_at_call 33; refine (cycle_calls n AE AI A cE cI c es ins _ _ (HE2.out _ (‹_ ∧ _ ∧ _ ∧ Asd (Below w2.heap.size w2 w3)›.2.2.2.out)).1 HCE.out (HE2.out _ (‹_ ∧ _ ∧ _ ∧ Asd (Below w2.heap.size w2 w3)›.2.2.2.out)).2 HCI.out HC3.out HC4.out HIN.out hok.out).mono ?_; rintro e w4 ⟨rfl, hb4⟩; have hb5 := below_step (‹_ ∧ _ ∧ _ ∧ Asd (Below w2.heap.size w2 w3)›.2.2.2.out) hb4; clear hb4))
      have HB5 := Asd.mk (HB2.out.trans (hb5.mono HB2.out.size))
      clear hb5 hb
      by_cases hcy : cycleF (Fw.ways n (esOf es)) es ≥ 0
      · have Q3 : Asd (checkC n es = some (3, [(bPort, cycleF (Fw.ways n (esOf es)) es)])) := ⟨by unfold checkC; rw [Int.toNat_natCast, if_pos hcy]⟩
        go_wp2_with fail
        refine (at_calls bPort _ 3 [] _ _ rfl).mono ?_
        rintro e w5 ⟨r1, rfl, he1, hb⟩
        have HB6 := Asd.mk (HB5.out.trans (hb.mono HB5.out.size))
        have HE1 := Asd.mk he1
        clear hb he1
        go_wp2
        go_ret
        exact ⟨_, rfl, by rw [Q0.out, Q1.out, Q2.out, Q3.out]; exact HE1.out, HB.out.trans (HB6.out.mono HB.out.size)⟩
      · have Q3 : Asd (checkC n es = none) := ⟨by unfold checkC; rw [Int.toNat_natCast, if_neg hcy]⟩
        have hcy' : cycleF (Fw.ways n (esOf es)) es < 0 := by omega
        clear hcy
        go_wp2
        go_ret
        exact ⟨_, rfl, by rw [Q0.out, Q1.out, Q2.out, Q3.out]; rfl, HB.out.trans (HB5.out.mono HB.out.size)⟩
end Go.Proofs.YtcgjdljhpcjmeaaDoor
