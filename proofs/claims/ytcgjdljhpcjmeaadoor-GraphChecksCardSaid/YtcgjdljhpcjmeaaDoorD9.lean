import Derived.Test.YtcgjdljhpcjmeaaDoorC2
import Derived.Test.YtcgjdljhpcjmeaaDoorD8
import Derived.Deep.Slices
import Derived.Deep.Strs
import Derived.Carry
namespace Go.Proofs.YtcgjdljhpcjmeaaDoor
open Go.ChangeShapes Go.WideShapes Go.ChangeAt Go.RowKit Go.Joins Go.Deep Go.Proofs.YtcgjdljhpcjmeaaDoorW.PrintWords PGraphChecks

theorem laidOut : laidOutB Tryd.prog = true := by kernel_rfl

def Wf49 (e : S49) : Prop := I64 e.f0 ∧ I64 e.f1 ∧ 0 ≤ e.f2 ∧ e.f2 ≤ Fw.never
theorem wf64 {n : Int} (h : (Lit.int .i64 n).wf = true) : I64 n := by
  have : IntKind.i64.min ≤ n ∧ n ≤ 9223372036854775807 := by simpa [Lit.wf] using h
  exact this
theorem wfu64 {n : Int} (h : (Lit.int .u64 n).wf = true) : 0 ≤ n ∧ n ≤ Fw.never := by
  have : IntKind.u64.min ≤ n ∧ n ≤ IntKind.u64.max := by simpa [Lit.wf] using h
  exact this

section
variable {H : Type} {enc : TypeId × Value → H} {w : World} {base : Nat} {spare : Nat → Bool} {held : Bool}
set_option maxRecDepth 100000 in
/-- One edge, read. -/
theorem open_edge {n : Nat} {cs : List Value} {y : DataW H × List MemPlace} (h : DataW.trod enc Tryd.prog w base spare held n 49 cs = some y) : ∃ e : S49, Wf49 e ∧ cs = [.int .i64 e.f0, .int .i64 e.f1, .int .u64 e.f2] := by
  obtain ⟨y0, y1, y2, m, _, hl, h0, h1, h2⟩ := trod_struct3 Tryd.underlying49 h
  have hl3 : cs.length = 3 := hl.trans (by kernel_rfl)
  match cs, hl3 with
  | [c0, c1, c2], _ =>
    have g0 : DataW.trod enc Tryd.prog w base spare held m 3 [c0] = some y0 := h0
    have g1 : DataW.trod enc Tryd.prog w base spare held m 3 [c1] = some y1 := h1
    have g2 : DataW.trod enc Tryd.prog w base spare held m 47 [c2] = some y2 := h2
    obtain ⟨a, e0, _, w0⟩ := DataW.trod_int Tryd.underlying3 g0
    obtain ⟨b, e1, _, w1⟩ := DataW.trod_int Tryd.underlying3 g1
    obtain ⟨c, e2, _, w2⟩ := DataW.trod_int Tryd.underlying47 g2
    refine ⟨⟨a, b, c⟩, ⟨wf64 w0, wf64 w1, wfu64 w2⟩, ?_⟩
    simp only [List.cons.injEq, and_true] at e0 e1 e2
    rw [e0, e1, e2]
set_option maxRecDepth 100000 in
theorem open_edges {fuel : Nat} {cs : List Value} {x : DataW H × List MemPlace} (h : DataW.trod enc Tryd.prog w base spare held fuel 22 cs = some x) :
    ∃ (A : Option Addr) (n c : Nat) (es : List S49), cs = [.slice A n c] ∧ n ≤ c ∧ Kd.C k49 w A n es ∧ ∀ e ∈ es, Wf49 e := by
  rcases open_slice Tryd.underlying22 h with ⟨rfl, _⟩ | ⟨a, len, cap, m, n, D, Pl, rfl, _, hl, hm, hmm, _, hi⟩
  · exact ⟨none, 0, 0, [], rfl, Nat.le_refl _, ⟨rfl, by omega, fun h0 => by omega⟩, fun e he => by simp at he⟩
  · have hlm : len ≤ m := by rw [hmm]; split <;> omega
    have hex : ∀ i, i < len → ∃ e : S49, Wf49 e ∧ w.cells? base (a.add (i * 3)) 3 = some [.int .i64 e.f0, .int .i64 e.f1, .int .u64 e.f2] := fun i hlt => by
      obtain ⟨cs', hc, ht⟩ := hi i (by omega)
      obtain ⟨e, he, rfl⟩ := open_edge ht
      exact ⟨e, he, hc⟩
    obtain ⟨f, hf⟩ : ∃ f : Nat → S49, ∀ i, i < len → Wf49 (f i) ∧ w.cells? base (a.add (i * 3)) 3 = some [.int .i64 (f i).f0, .int .i64 (f i).f1, .int .u64 (f i).f2] :=
      ⟨fun i => if hlt : i < len then Classical.choose (hex i hlt) else z49, fun i hlt => by
        simp only [dif_pos hlt]; exact Classical.choose_spec (hex i hlt)⟩
    unfold maxLen at hm
    refine ⟨some a, len, cap, (List.range len).map f, rfl, hl, ⟨by simp, by omega, fun _ => ⟨a, rfl, fun j e hj => ?_⟩⟩, fun e he => ?_⟩
    · rw [List.getElem?_map] at hj
      have hj1 : j < len := by
        cases hr : (List.range len)[j]? with
        | none => rw [hr] at hj; cases hj
        | some q => have := (List.getElem?_eq_some_iff.1 hr).1; simpa using this
      rw [List.getElem?_range hj1] at hj
      obtain rfl : f j = e := by simpa using hj
      refine ⟨_, rfl, k49_mk w (f j), fun i u hu => ?_⟩
      obtain ⟨_, hcl, hat⟩ := World.cells?_some (hf j hj1).2
      have hi3 : i < 3 := by have := (List.getElem?_eq_some_iff.1 hu).1; simpa using this
      have := hat i hi3
      rw [← Go.Deep.add_add]
      show w.cell? ((a.add (j * 3)).add i) = some u
      rw [this, hu]
    · obtain ⟨j, hj, rfl⟩ := List.mem_map.1 he
      exact (hf j (by simpa using hj)).1
set_option maxRecDepth 100000 in
theorem open_inputs {fuel : Nat} {cs : List Value} {x : DataW H × List MemPlace} (h : DataW.trod enc Tryd.prog w base spare held fuel 23 cs = some x) :
    ∃ (A : Option Addr) (n c : Nat) (l : List Int), cs = [.slice A n c] ∧ n ≤ c ∧ Kd.C (Kd.int .i64) w A n l := by
  rcases open_ints Tryd.underlying23 Tryd.underlying3 (by kernel_rfl) h with ⟨rfl, _⟩ | ⟨a, len, cap, zs, rfl, _, hl, hm, hz, _, hc, _⟩
  · exact ⟨none, 0, 0, [], rfl, Nat.le_refl _, ⟨rfl, by omega, fun h0 => by omega⟩⟩
  · have hlz : len ≤ zs.length := by rw [hz]; split <;> omega
    unfold maxLen at hm
    refine ⟨some a, len, cap, zs.take len, rfl, hl, ⟨by rw [List.length_take]; omega, by omega, fun _ => ⟨a, rfl, fun j e hj => ⟨[.int .i64 e], rfl, rfl, fun i u hu => ?_⟩⟩⟩⟩
    obtain rfl : i = 0 := by have := (List.getElem?_eq_some_iff.1 hu).1; simp at this; omega
    cases hu
    have hj1 : j < len := by have := (List.getElem?_eq_some_iff.1 hj).1; simp at this; omega
    have := hc j (by omega)
    rw [List.getElem?_take, if_pos hj1] at hj
    simpa [Kd.int, Kd.scalar, List.getD_eq_getElem?_getD, hj] using this
end

theorem laid_of2 {W : World} (h : laidMetH Tryd.prog Rows.graphChecksRow.laid W) : Laid W := laid_of h

theorem door_met2 (os : Os) (args : Array Value) : laidMetH Tryd.prog Rows.graphChecksRow.laid ((World.doorLaid Tryd.prog 31 os).forCall (fun _ _ => 0) ⟨#[], args, []⟩).memory := door_met os args

set_option maxRecDepth 100000 in
theorem checks_lifted (os : Os) (started : os.Started) (H : Type) (enc : TypeId × Value → H) :
    ReturnsInHanded {} Tryd.checked os 3 .any (fun w args => (Rows.graphChecksSpec.pre enc Tryd.prog Tryd.f3 [] false w args ∧ laidMetH Tryd.prog Rows.graphChecksRow.laid w) ∧ sizedMet enc Tryd.prog Tryd.f3 (OpenSpec.ofChange Rows.graphChecksSpec) false w args)
      (Rows.graphChecksSpec.post enc Tryd.prog Tryd.f3 false true false false) := by
  refine returnsInHanded_of_change_and (C := Tryd.checked) (X := fun w _ => laidMetH Tryd.prog Rows.graphChecksRow.laid w) (fun _ _ _ hh h => h.of_heap hh) own started (by kernel_rfl) Tryd.func3
    (ChangeSpec.witness_shaped (enc := enc) (C := Tryd.checked) (os := os) (X := fun w _ => laidMetH Tryd.prog Rows.graphChecksRow.laid w) false (World.doorLaid Tryd.prog 31 os) #[.agg #[.int .i64 0, .slice none 0 0, .slice none 0 0]] 8 rfl (World.shaped_of_RefB (by kernel_rfl) (by kernel_rfl)) (by kernel_rfl) (by kernel_rfl) (by kernel_rfl) (door_met2 os _)) ?_
  intro W base args ds gs before hval0 hW _ _ hL _
  have hval : ∀ (j : Nat) t v, Tryd.f3.params[j]? = some t → args[j]? = some v → Value.okWide Tryd.prog W .any base t v := hval0
  have hW' := hW
  obtain ⟨p, q, hA0, hV, rfl, hfz, hnd⟩ := hW
  have hA : DataW.TrodAll enc Tryd.prog W 0 (fun _ => true) true Tryd.f3.params.toList args.toList ds p := hA0
  rw [Tryd.params3] at hA hval
  obtain ⟨v0, d0, rfl, rfl, h0⟩ := trodAll_one hA
  obtain ⟨rfl, rfl⟩ := trodVars_none hV
  have hv0 := hval 0 25 v0 rfl rfl
  have k0 := h0
  have lt0 : ∀ x ∈ p, x.block < W.heap.size := by obtain ⟨m, hm⟩ := k0; exact DataW.trod_lt m _ _ _ hm
  obtain ⟨c0, c1, c2, y0, y1, y2, m, rfl, hd, _, g0, g1, g2⟩ := open_agg3 Tryd.underlying25 (by kernel_rfl) (by kernel_rfl) hv0 h0
  obtain ⟨P, e0, _, _⟩ := DataW.trod_int Tryd.underlying3 g0
  obtain ⟨AE, n, cE, es, e1, hcE, hE, hwf⟩ := open_edges g1
  obtain ⟨AI, m', cI, ins, e2, hcI, hI⟩ := open_inputs g2
  simp only [List.cons.injEq, and_true] at e0 e1 e2
  subst e0; subst e1; subst e2
  clear hA0 hval0
  simp only [List.append_nil] at hW'
  refine (checks_calls P AE AI n m' cE cI es ins W (laid_of2 hL) hE hcE hI hcI (fun e he => ?_) (fun e he => ?_)).mono fun e W' ⟨he, hb⟩ => ?_
  · obtain ⟨x, hx, rfl⟩ := List.mem_map.1 he
    exact (hwf x hx).2.2
  · obtain ⟨x, hx, rfl⟩ := List.mem_map.1 he
    exact ⟨(hwf x hx).1, (hwf x hx).2.1⟩
  subst he
  exact ⟨_, rfl, _, _, _, [], _, [], hW', trodAll_mk1 (shut_bool Tryd.underlying4 true), trodAll_mk1 (Below.trod laidOut (by kernel_rfl) (of_decide_eq_true (by kernel_rfl)) k0 hb lt0), rfl, hb.frame _, fun h => by cases h⟩

theorem graphChecks_holds : Rows.GraphChecksSaid :=
  OpenClaim.holds_of_wide 3 Tryd.f3 rfl rfl rfl rfl rfl rfl rfl ⟨rfl, rfl, rfl, rfl, rfl⟩ rfl rfl rfl rfl rfl (by kernel_rfl) Tryd.func3 (by kernel_rfl)
    (of_decide_eq_true (by kernel_rfl)) (by unfold Func.isWrapper; rw [if_neg (of_decide_eq_false (by kernel_rfl))]; exact ⟨rfl, rfl⟩)
    (fun os started H enc _ => checks_lifted os started H enc)
end Go.Proofs.YtcgjdljhpcjmeaaDoor
