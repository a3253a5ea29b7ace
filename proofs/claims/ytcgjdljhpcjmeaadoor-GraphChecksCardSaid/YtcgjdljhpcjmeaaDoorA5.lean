import Derived.Test.YtcgjdljhpcjmeaaDoorA4
import Derived.Lib.SmallJoins
import Derived.Lib.ItoaLen
namespace Go.Proofs.YtcgjdljhpcjmeaaDoor
open Go.RowKit Go.Extern.Stop Go.Stop Go.Extern Go.Proofs.YtcgjdljhpcjmeaaDoorW.PrintWords Go.Proofs.YtcgjdljhpcjmeaaDoorW.PrintMore

/-- What the statements' rows list, laid. -/
def Laid (w : World) : Prop := LaidE w ∧ Lib.TabIs Tryd.prog w "internal/strconv.uint64pow10" .u64 Lib.pow10Tab
theorem Laid.below {w w1 : World} (h : Laid w) (hb : Below w.heap.size w w1) : Laid w1 :=
  ⟨h.1.below hb, Go.Joins.tab_stays (g := 1) (by kernel_rfl) h.2 hb (Nat.le_refl _)⟩

theorem below_grow (w : World) (k : Nat) (os : Array Obj) : Below w.heap.size w (Go.Sort.grow (w.drewN k) os) := by
  refine ⟨rfl, rfl, rfl, ?_, fun i hi => ?_⟩
  · simp [Go.Sort.grow, World.drewN]
  · show (w.heap ++ os)[i]? = _
    rw [Array.getElem?_append_left hi]

def itoaB (n : Int) : ByteArray := ⟨(Lib.itoa n).toArray⟩
theorem itoa_calls (n : Int) (h0 : -9223372036854775808 ≤ n) (h1 : n ≤ 9223372036854775807) (w : World) (hl : Laid w) :
    Calls Tryd.prog 39 #[.int .i64 n] w fun e w' => e = .returned (.string (itoaB n)) ∧ Below w.heap.size w w' :=
  (Tryd.strconv_Itoa n h0 h1 w hl.2).mono fun _ _ ⟨he, k, os, hw⟩ => ⟨he, hw ▸ below_grow w k os⟩

/-- fault.Text's places. -/
def placesB : List (ByteArray × Int) → ByteArray
  | [] => ⟨#[]⟩
  | (s, n) :: l => s ++ ⟨#[32]⟩ ++ itoaB n ++ ⟨#[58, 32]⟩ ++ placesB l

theorem placesB_app : ∀ (l m : List (ByteArray × Int)), placesB (l ++ m) = placesB l ++ placesB m
  | [], m => (ByteArray.empty_append (b := placesB m)).symm
  | (s, n) :: l, m => by simp only [List.cons_append, placesB, placesB_app l m, ByteArray.append_assoc]
theorem itoaB_size (n : Int) (h0 : -9223372036854775808 ≤ n) (h1 : n ≤ 9223372036854775807) : (itoaB n).size ≤ 21 := by
  have := Lib.itoa_length_le n h0 h1
  simpa [itoaB, ByteArray.size] using this
theorem placesB_size : ∀ (l : List (ByteArray × Int)), (∀ p ∈ l, p.1.size ≤ 100 ∧ -9223372036854775808 ≤ p.2 ∧ p.2 ≤ 9223372036854775807) → (placesB l).size ≤ 124 * l.length
  | [], _ => Nat.le_refl 0
  | (s, n) :: l, h => by
    have h0 := h (s, n) (by simp)
    have h1 := itoaB_size n h0.2.1 h0.2.2
    have h2 := placesB_size l (fun p hp => h p (by simp [hp]))
    simp only [placesB, ByteArray.size_append, List.length_cons] at *
    have e1 : (⟨#[32]⟩ : ByteArray).size = 1 := rfl
    have e2 : (⟨#[58, 32]⟩ : ByteArray).size = 2 := rfl
    omega
theorem wordOf_size (k : Int) : (wordOf k).size ≤ 8 := by
  unfold wordOf
  repeat' (split)
  all_goals decide
theorem rd_pl {w : World} {A : Option Addr} {n : Nat} {xs : List (ByteArray × Int)} (h : Kd.C kPl w A n xs) (i : Nat) (p : ByteArray × Int) (hp : xs[i]? = some p) :
    ∃ ad, A = some ad ∧ w.cell? (ad.add (i * 2)) = some (.string p.1) ∧ w.cell? ⟨(ad.add (i * 2)).block, (ad.add (i * 2)).off + 1, none⟩ = some (.int .i64 p.2) := by
  have hi : i < xs.length := (List.getElem?_eq_some_iff.1 hp).1
  obtain ⟨ad, c, e, _, hK, hc⟩ := Kd.C_get h (⟨#[]⟩, 0) (i : Int) (by omega) (by have := h.1; omega)
  have hg : xs.getD (i : Int).toNat (⟨#[]⟩, 0) = p := by simp [List.getD_eq_getElem?_getD, hp]
  rw [hg] at hK
  obtain ⟨c1, c2, rfl, h1, h2⟩ := hK
  cases h1; cases h2
  refine ⟨ad, e, ?_, ?_⟩
  · have := hc 0 _ rfl
    simpa [kPl, Kd.pair, Kd.string, Kd.int, Kd.scalar] using this
  · have := hc 1 _ rfl
    rw [← add_field _ _ 1 (by omega)]
    simpa [kPl, Kd.pair, Kd.string, Kd.int, Kd.scalar] using this

set_option maxHeartbeats 1000000 in
set_option maxRecDepth 100000 in
theorem text_calls (k : Int) (l : List (ByteArray × Int)) (v : Value) (w : World) (hl : Laid w) (h : ErrAt w k l v) (hlen : l.length < 1000) (hk0 : 0 ≤ k) (hk1 : k ≤ 4)
    (hs : ∀ p ∈ l, p.1.size ≤ 100 ∧ -9223372036854775808 ≤ p.2 ∧ p.2 ≤ 9223372036854775807) :
    Calls Tryd.prog 15 #[v] w fun e w' => e = .returned (.string (placesB l ++ wordOf k)) ∧ Below w.heap.size w w' := by
  have H := Asd.mk h
  have HL := Asd.mk hlen
  have HS := Asd.mk hs
  have Hl := Asd.mk hl
  clear h hlen hs hl
  go_enter Tryd.func15, Tryd.ntmps15
  go_wp2_with fail
  refine (path_calls k l _ _ H.out HL.out).mono ?_
  rintro e w1 ⟨r, rfl, hR, hB⟩
  obtain ⟨A, c, rfl, hc, hC⟩ := Kd.R_reads hR
  have HC := Asd.mk hC
  have HB := Asd.mk hB
  clear hR hC hB hc
  go_wp2_with fail
  go_loopw [3, 9] (fun v3 v9 w' => ∃ j : Nat, j ≤ l.length ∧ v9 = .int .i64 j ∧ v3 = .string (placesB (l.take j)) ∧ Asd (Below w1.heap.size w1 w')) (fun _ v9 _ => l.length - (intOf v9).toNat)
  case atStart => exact ⟨0, Nat.zero_le _, rfl, rfl, ⟨Below.refl _ _⟩⟩
  case round =>
    obtain ⟨j, hj, rfl, rfl, HB2⟩ := hrel
    have hjl : l.length < 1000 := HL.out
    by_cases hlt : j < l.length
    · obtain ⟨p, hp⟩ : ∃ p, l[j]? = some p := ⟨_, List.getElem?_eq_getElem hlt⟩
      obtain ⟨ad, rfl, hc0, hc1⟩ := rd_pl HC.out j p hp
      have hc0' := cell_keep HB2.out hc0
      have hc1' := cell_keep HB2.out hc1
      have HP := Asd.mk hp
      clear hc0 hc1 hp
      go_wp2_with fail
      have hpl := HS.out p (List.mem_of_getElem? HP.out)
      have hz1 : (placesB (l.take j)).size ≤ 124000 := by
        have := placesB_size (l.take j) (fun q hq => HS.out q (List.mem_of_mem_take hq))
        have := List.length_take_le j l
        omega
      have hz2 := hpl.1
      have hz3 := itoaB_size p.2 hpl.2.1 hpl.2.2
      generalize hX : placesB (l.take j) = X at *
      have HX := Asd.mk hX
      clear hX hc0' hc1'
      have HPL := Asd.mk hpl
      clear hpl
      have n3 : ¬ (9223372036854775807 < p.1.size + 1) := by omega
      have n7 : ¬ (9223372036854775807 < p.1.size + 1 + (itoaB p.2).size) := by omega
      have n8 : ¬ (9223372036854775807 < p.1.size + 1 + (itoaB p.2).size + 2) := by omega
      have n9 : ¬ (9223372036854775807 < X.size + (p.1.size + 1 + (itoaB p.2).size + 2)) := by omega
      have HB3 := Asd.mk (HB2.out.alloc HB2.out.size (.cells #[.string p.1, .int .i64 p.2] 85))
      have HL1 := Asd.mk (Hl.out.below HB.out)
      have c0 : (wr.alloc (.cells #[.string p.1, .int .i64 p.2] 85)).cell? ⟨wr.heap.size, 0, none⟩ = some (.string p.1) := by simp
      have c1 : (wr.alloc (.cells #[.string p.1, .int .i64 p.2] 85)).cell? ⟨wr.heap.size, 1, none⟩ = some (.int .i64 p.2) := by simp
      have C0 := Asd.mk c0
      have C1 := Asd.mk c1
      clear c0 c1
      generalize wr.alloc (.cells #[.string p.1, .int .i64 p.2] 85) = WB at *
      have hSof : Asd (∀ w', Below WB.heap.size WB w' → w'.cell? ⟨wr.heap.size, 0, none⟩ = some (.string p.1) ∧ w'.cell? ⟨wr.heap.size, 1, none⟩ = some (.int .i64 p.2) ∧ Asd (Below WB.heap.size WB w')) :=
        ⟨fun w' hb => ⟨cell_keep hb C0.out, cell_keep hb C1.out, ⟨hb⟩⟩⟩
      go_region_held3 (fun w' => w'.cell? ⟨wr.heap.size, 0, none⟩ = some (.string p.1) ∧ w'.cell? ⟨wr.heap.size, 1, none⟩ = some (.int .i64 p.2) ∧ Asd (Below WB.heap.size WB w'))
        (first | exact hSof.out _ (below_drew (Below.refl _ _)) | exact hSof.out _ (below_step (‹_ ∧ _ ∧ Asd (Below _ _ _)›.2.2.out) ‹Below _ _ _›))
        (first | (go_at_call 39; refine (itoa_calls p.2 HPL.out.2.1 HPL.out.2.2 _ (Laid.below (HL1.out.below HB3.out) (‹_ ∧ _ ∧ Asd (Below _ _ _)›.2.2.out))).mono ?_; rintro e w' ⟨rfl, hb⟩))
      have HBn := Asd.mk (below_step HB3.out (‹_ ∧ _ ∧ Asd (Below WB.heap.size WB _)›.2.2.out))
      go_wp2
      go_roundw
      case measure => simp [intOf]; omega
      case rel =>
        refine ⟨j + 1, by omega, by go_num, ?_, HBn⟩
        rw [List.take_add_one, HP.out, placesB_app, HX.out]
        congr 1
        simp only [Option.toList_some, placesB, ByteArray.append_assoc]
        rw [show (⟨#[]⟩ : ByteArray) = ByteArray.empty from rfl, ByteArray.append_empty]
    · obtain rfl : j = l.length := by omega
      have HB3 := Asd.mk (below_step HB.out HB2.out)
      have hX : placesB (l.take l.length) = placesB l := by rw [List.take_length]
      have hz := placesB_size l (fun q hq => HS.out q hq)
      rw [hX]
      clear hX
      go_wp2_with fail
      refine (kind_calls k l _ _ (Hl.out.below HB3.out).1 (H.out.below HB3.out)).mono ?_
      rintro e w2 ⟨rfl, hb⟩
      have HB4 := Asd.mk (below_step HB3.out hb)
      clear hb
      go_wp2_with fail
      refine (word_calls k hk0 hk1 _).mono ?_
      rintro e w3 ⟨rfl, hb⟩
      have HB5 := Asd.mk (below_step HB4.out hb)
      have hw := wordOf_size k
      have n9 : ¬ (9223372036854775807 < (placesB l).size + (wordOf k).size) := by omega
      clear hb
      go_wp2
      go_ret
      exact ⟨rfl, HB5.out⟩
end Go.Proofs.YtcgjdljhpcjmeaaDoor
