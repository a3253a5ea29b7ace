import Derived.Test.YtcgjdljhpcjmeaaDoorB7
namespace Go.Proofs.YtcgjdljhpcjmeaaDoor
open Go.RowKit Go.Proofs.YtcgjdljhpcjmeaaDoorW.PrintWords Go.Proofs.YtcgjdljhpcjmeaaDoorW.PrintMore PGraphChecks

def gE : List S78 := [⟨0, 1, 0⟩, ⟨1, 0, 1⟩]
def hE : List S78 := [⟨0, 1, 0⟩, ⟨1, 0, 0⟩]
theorem gE_check : checkE 2 gE [0] = none := by decide +kernel
theorem gE_ways : Fw.ways 2 (esOf gE) = [[0, 0], [1, 0]] := by decide +kernel
theorem hE_check : checkE 2 hE [0] = some (3, [(bPort, 0)]) := by rfl
theorem zE_check : checkE 0 [] [] = some (2, []) := by rfl
theorem hE_text : placesB [(bPort, 0)] ++ wordOf 3 = ⟨#[112, 111, 114, 116, 32, 48, 58, 32, 99, 121, 99, 108, 101]⟩ := by decide +kernel

theorem gE_add : EAdd gE := by intro e he; simp [gE] at he; rcases he with rfl | rfl <;> simp [Fw.never]
theorem hE_add : EAdd hE := by intro e he; simp [hE] at he; rcases he with rfl | rfl <;> simp [Fw.never]

set_option maxHeartbeats 4000000 in
set_option maxRecDepth 100000 in
theorem told_calls (w : World) (hl : Laid w) : Calls Tryd.prog 10 #[] w fun e w' => e = .returned (.bool true) ∧ Below w.heap.size w w' := by
  have HL := Asd.mk hl
  clear hl
  have HB0 := Asd.mk (below_al (below_al (below_al (Below.refl w.heap.size w) (.cells #[.int .i64 0, .int .i64 1, .int .u64 0, .int .i64 1, .int .i64 0, .int .u64 1] 78)) (.cells #[.int .i64 0] 3)) (.cells #[.int .i64 2, .slice (some ⟨w.heap.size, 0, none⟩) 2 2, .slice (some ⟨w.heap.size + 1, 0, none⟩) 1 1] 32))
  have HC0 : Asd ((((w.alloc (.cells #[.int .i64 0, .int .i64 1, .int .u64 0, .int .i64 1, .int .i64 0, .int .u64 1] 78)).alloc (.cells #[.int .i64 0] 3)).alloc (.cells #[.int .i64 2, .slice (some ⟨w.heap.size, 0, none⟩) 2 2, .slice (some ⟨w.heap.size + 1, 0, none⟩) 1 1] 32)).heap[w.heap.size]? = some (.cells (cells78 gE).toArray 78 (0, 0))) := ⟨blk_old (blk_old (blk_new rfl))⟩
  have HC1 : Asd ((((w.alloc (.cells #[.int .i64 0, .int .i64 1, .int .u64 0, .int .i64 1, .int .i64 0, .int .u64 1] 78)).alloc (.cells #[.int .i64 0] 3)).alloc (.cells #[.int .i64 2, .slice (some ⟨w.heap.size, 0, none⟩) 2 2, .slice (some ⟨w.heap.size + 1, 0, none⟩) 1 1] 32)).heap[w.heap.size + 1]? = some (.cells (([0] : List Int).map (Value.int .i64)).toArray 3 (0, 0))) := ⟨blk_old (blk_new (by simp))⟩
  have HC2 : Asd ((((w.alloc (.cells #[.int .i64 0, .int .i64 1, .int .u64 0, .int .i64 1, .int .i64 0, .int .u64 1] 78)).alloc (.cells #[.int .i64 0] 3)).alloc (.cells #[.int .i64 2, .slice (some ⟨w.heap.size, 0, none⟩) 2 2, .slice (some ⟨w.heap.size + 1, 0, none⟩) 1 1] 32)).heap[w.heap.size + 2]? = some (.cells #[.int .i64 2, .slice (some ⟨w.heap.size, 0, none⟩) 2 2, .slice (some ⟨w.heap.size + 1, 0, none⟩) 1 1] 32 (0, 0))) := ⟨blk_new (by simp)⟩
  have HZ0 : Asd ((((w.alloc (.cells #[.int .i64 0, .int .i64 1, .int .u64 0, .int .i64 1, .int .i64 0, .int .u64 1] 78)).alloc (.cells #[.int .i64 0] 3)).alloc (.cells #[.int .i64 2, .slice (some ⟨w.heap.size, 0, none⟩) 2 2, .slice (some ⟨w.heap.size + 1, 0, none⟩) 1 1] 32)).heap.size = w.heap.size + 3) := ⟨by simp⟩
  go_enter Tryd.func10, Tryd.ntmps10
  go_wp2_with fail
  generalize ((w.alloc (.cells #[.int .i64 0, .int .i64 1, .int .u64 0, .int .i64 1, .int .i64 0, .int .u64 1] 78)).alloc (.cells #[.int .i64 0] 3)).alloc (.cells #[.int .i64 2, .slice (some ⟨w.heap.size, 0, none⟩) 2 2, .slice (some ⟨w.heap.size + 1, 0, none⟩) 1 1] 32) = W0 at *
  have KE := Asd.mk (C78_of_block (es := gE) HC0.out (by decide))
  have KI := Asd.mk (Cint_of_block (k := .i64) (l := [0]) HC1.out (by decide))
  refine (paths_calls 2 (some ⟨w.heap.size, 0, none⟩) (some ⟨w.heap.size + 1, 0, none⟩) 2 1 gE [0] _ KE.out (Nat.le_refl _) KI.out (Nat.le_refl _) gE_add).mono ?_
  rintro e w1 ⟨v, rfl, hp, hb⟩
  unfold PathsO at hp
  rw [if_pos gE_check] at hp
  obtain ⟨rows, hm⟩ := hp
  rw [show (2 : Int).toNat = 2 from rfl, gE_ways] at hm
  obtain ⟨g, cap, rfl, _, _, hrow⟩ := hm.outer (by rw [hm.len]; decide)
  have hrl : rows.length = 2 := hm.len
  obtain ⟨b0, b1, rfl⟩ : ∃ b0 b1, rows = [b0, b1] := by
    match rows, hrl with
    | [x, y], _ => exact ⟨x, y, rfl⟩
  have F0 := Asd.mk (hrow 0 b0 rfl)
  have F1 := Asd.mk (hrow 1 b1 rfl)
  have F2 := Asd.mk (hm.inner (i := 0) (j := 1) (b := b0) rfl (by decide)).1
  have F3 := Asd.mk (hm.inner (i := 1) (j := 0) (b := b1) rfl (by decide)).1
  have HB1 := Asd.mk (HB0.out.trans (hb.mono HB0.out.size))
  have HC2' := Asd.mk (blk_keep hb HC2.out)
  have HKE := Asd.mk (Kd.C_below KE.out hb)
  have HKI := Asd.mk (Kd.C_below KI.out hb)
  clear hb hm hrow hrl HC0 HC1 HC2 KE KI
  have HZ1 : Asd (w.heap.size + 2 < w1.heap.size) := ⟨(Array.getElem?_eq_some_iff.1 HC2'.out).1⟩
  have HBW := Asd.mk (below_al (below_al (below_al (Below.refl w1.heap.size w1) (.cells #[.int .i64 0, .int .i64 1, .int .u64 0, .int .i64 1, .int .i64 0, .int .u64 0] 78)) (.cells #[.int .i64 0] 3)) (.cells #[.int .i64 2, .slice (some ⟨w1.heap.size, 0, none⟩) 2 2, .slice (some ⟨w1.heap.size + 1, 0, none⟩) 1 1] 32))
  have D0 : Asd ((((w1.alloc (.cells #[.int .i64 0, .int .i64 1, .int .u64 0, .int .i64 1, .int .i64 0, .int .u64 0] 78)).alloc (.cells #[.int .i64 0] 3)).alloc (.cells #[.int .i64 2, .slice (some ⟨w1.heap.size, 0, none⟩) 2 2, .slice (some ⟨w1.heap.size + 1, 0, none⟩) 1 1] 32)).heap[w1.heap.size]? = some (.cells (cells78 hE).toArray 78 (0, 0))) := ⟨blk_old (blk_old (blk_new rfl))⟩
  have D1 : Asd ((((w1.alloc (.cells #[.int .i64 0, .int .i64 1, .int .u64 0, .int .i64 1, .int .i64 0, .int .u64 0] 78)).alloc (.cells #[.int .i64 0] 3)).alloc (.cells #[.int .i64 2, .slice (some ⟨w1.heap.size, 0, none⟩) 2 2, .slice (some ⟨w1.heap.size + 1, 0, none⟩) 1 1] 32)).heap[w1.heap.size + 1]? = some (.cells (([0] : List Int).map (Value.int .i64)).toArray 3 (0, 0))) := ⟨blk_old (blk_new (by simp))⟩
  have D2 : Asd ((((w1.alloc (.cells #[.int .i64 0, .int .i64 1, .int .u64 0, .int .i64 1, .int .i64 0, .int .u64 0] 78)).alloc (.cells #[.int .i64 0] 3)).alloc (.cells #[.int .i64 2, .slice (some ⟨w1.heap.size, 0, none⟩) 2 2, .slice (some ⟨w1.heap.size + 1, 0, none⟩) 1 1] 32)).heap[w1.heap.size + 2]? = some (.cells #[.int .i64 2, .slice (some ⟨w1.heap.size, 0, none⟩) 2 2, .slice (some ⟨w1.heap.size + 1, 0, none⟩) 1 1] 32 (0, 0))) := ⟨blk_new (by simp)⟩
  have c0 : (((w1.alloc (.cells #[.int .i64 0, .int .i64 1, .int .u64 0, .int .i64 1, .int .i64 0, .int .u64 0] 78)).alloc (.cells #[.int .i64 0] 3)).alloc (.cells #[.int .i64 2, .slice (some ⟨w1.heap.size, 0, none⟩) 2 2, .slice (some ⟨w1.heap.size + 1, 0, none⟩) 1 1] 32)).cell? ⟨w.heap.size + 1 + 1, 0, none⟩ = some (.int .i64 2) := cell_keep HBW.out (blk_cell HC2'.out)
  have c1 : (((w1.alloc (.cells #[.int .i64 0, .int .i64 1, .int .u64 0, .int .i64 1, .int .i64 0, .int .u64 0] 78)).alloc (.cells #[.int .i64 0] 3)).alloc (.cells #[.int .i64 2, .slice (some ⟨w1.heap.size, 0, none⟩) 2 2, .slice (some ⟨w1.heap.size + 1, 0, none⟩) 1 1] 32)).cell? ⟨w.heap.size + 1 + 1, 1, none⟩ = some (.slice (some ⟨w.heap.size, 0, none⟩) 2 2) := cell_keep HBW.out (blk_cell HC2'.out)
  have c2 : (((w1.alloc (.cells #[.int .i64 0, .int .i64 1, .int .u64 0, .int .i64 1, .int .i64 0, .int .u64 0] 78)).alloc (.cells #[.int .i64 0] 3)).alloc (.cells #[.int .i64 2, .slice (some ⟨w1.heap.size, 0, none⟩) 2 2, .slice (some ⟨w1.heap.size + 1, 0, none⟩) 1 1] 32)).cell? ⟨w.heap.size + 1 + 1, 2, none⟩ = some (.slice (some ⟨w.heap.size + 1, 0, none⟩) 1 1) := cell_keep HBW.out (blk_cell HC2'.out)
  go_wp2_with fail
  clear c0 c1 c2
  generalize (((w1.alloc (.cells #[.int .i64 0, .int .i64 1, .int .u64 0, .int .i64 1, .int .i64 0, .int .u64 0] 78)).alloc (.cells #[.int .i64 0] 3)).alloc (.cells #[.int .i64 2, .slice (some ⟨w1.heap.size, 0, none⟩) 2 2, .slice (some ⟨w1.heap.size + 1, 0, none⟩) 1 1] 32)) = W3 at *
  refine (check_calls 2 (some ⟨w.heap.size, 0, none⟩) (some ⟨w.heap.size + 1, 0, none⟩) 2 1 gE [0] _ (Kd.C_below HKE.out HBW.out) (Nat.le_refl _) (Kd.C_below HKI.out HBW.out) (Nat.le_refl _) gE_add).mono ?_
  rintro e w4 ⟨v, rfl, hv, hb⟩
  rw [gE_check] at hv
  obtain rfl : v = .nilIface := hv
  have HB4 := Asd.mk (HBW.out.trans (hb.mono HBW.out.size))
  have f0 := cell_keep HB4.out F0.out
  have f1 := cell_keep HB4.out F1.out
  have f2 := cell_keep HB4.out F2.out
  have f3 := cell_keep HB4.out F3.out
  rw [show Fw.getM [[0, 0], [1, 0]] 0 1 = 0 from rfl] at f2
  rw [show Fw.getM [[0, 0], [1, 0]] 1 0 = 1 from rfl] at f3
  have E2 := blk_keep hb D2.out
  have e0 : w4.cell? ⟨w1.heap.size + 1 + 1, 0, none⟩ = some (.int .i64 2) := blk_cell E2
  have e1 : w4.cell? ⟨w1.heap.size + 1 + 1, 1, none⟩ = some (.slice (some ⟨w1.heap.size, 0, none⟩) 2 2) := blk_cell E2
  have e2 : w4.cell? ⟨w1.heap.size + 1 + 1, 2, none⟩ = some (.slice (some ⟨w1.heap.size + 1, 0, none⟩) 1 1) := blk_cell E2
  have KH := Asd.mk (Kd.C_below (C78_of_block (es := hE) D0.out (by decide)) hb)
  have KJ := Asd.mk (Kd.C_below (Cint_of_block (k := .i64) (l := [0]) D1.out (by decide)) hb)
  clear hb E2
  go_wp2_with fail
  clear e0 e1 e2 f0 f1 f2 f3
  refine (check_calls 2 (some ⟨w1.heap.size, 0, none⟩) (some ⟨w1.heap.size + 1, 0, none⟩) 2 1 hE [0] _ KH.out (Nat.le_refl _) KJ.out (Nat.le_refl _) hE_add).mono ?_
  rintro e w5 ⟨v, rfl, hv, hb⟩
  rw [hE_check] at hv
  have HV := Asd.mk hv
  have HB5 := Asd.mk (HB1.out.trans ((HB4.out.trans (hb.mono HB4.out.size)).mono HB1.out.size))
  clear hv hb
  go_wp2_with fail
  refine (text_calls 3 [(bPort, 0)] _ _ (HL.out.below HB5.out) HV.out (by decide) (by decide) (by decide) (by intro p hp; simp at hp; subst hp; decide)).mono ?_
  rintro e w6 ⟨he, hb⟩
  rw [hE_text] at he
  subst he
  have HB6 := Asd.mk (below_step HB5.out hb)
  clear hb
  go_wp2_with fail
  refine (check_calls 0 none none 0 0 [] [] _ ⟨rfl, by decide, fun h => absurd h (by decide)⟩ (Nat.le_refl _) ⟨rfl, by decide, fun h => absurd h (by decide)⟩ (Nat.le_refl _) (fun _ h => by cases h)).mono ?_
  rintro e w7 ⟨v, rfl, hv, hb⟩
  rw [zE_check] at hv
  have HV7 := Asd.mk hv
  have HB7 := Asd.mk (below_step HB6.out hb)
  clear hv hb
  go_wp2_with fail
  refine (kind_calls 2 [] _ _ (HL.out.below HB7.out).1 HV7.out).mono ?_
  rintro e w8 ⟨rfl, hb⟩
  have HB8 := Asd.mk (below_step HB7.out hb)
  clear hb
  go_wp2
  go_ret
  exact ⟨rfl, HB8.out⟩
end Go.Proofs.YtcgjdljhpcjmeaaDoor
