import Derived.Test.YtcgjdljhpcjmeaaDoorD5
import Derived.Test.YtcgjdljhpcjmeaaDoorA5
import Derived.Test.YtcgjdljhpcjmeaaDoorD4
import Derived.IntWalk
import Derived.Deep.DeepCutAuto
namespace Go.Proofs.YtcgjdljhpcjmeaaDoor
open Go.RowKit Go.Proofs.YtcgjdljhpcjmeaaDoorW.PrintWords Go.Proofs.YtcgjdljhpcjmeaaDoorW.PrintMore PGraphChecks

def I64 (x : Int) : Prop := -9223372036854775808 ≤ x ∧ x ≤ 9223372036854775807
def OkT (l : List (ByteArray × Int)) : Prop := l.length ≤ 2 ∧ ∀ p ∈ l, p.1.size ≤ 100 ∧ -9223372036854775808 ≤ p.2 ∧ p.2 ≤ 9223372036854775807
def OkO : Option (Int × List (ByteArray × Int)) → Prop
  | none => True
  | some (k, l) => 1 ≤ k ∧ k ≤ 4 ∧ OkT l
theorem okT_nil : OkT [] := ⟨by simp, fun p hp => by simp at hp⟩
theorem okT_one {s : ByteArray} {n : Int} (hs : s.size ≤ 100) (hn : I64 n) : OkT [(s, n)] := ⟨by simp, fun p hp => by
  obtain rfl := List.mem_singleton.1 hp; exact ⟨hs, hn.1, hn.2⟩⟩
theorem okT_two {s t : ByteArray} {n m : Int} (hs : s.size ≤ 100) (hn : I64 n) (ht : t.size ≤ 100) (hm : I64 m) : OkT [(s, n), (t, m)] := ⟨by simp, fun p hp => by
  rcases List.mem_cons.1 hp with rfl | hp
  · exact ⟨hs, hn.1, hn.2⟩
  · obtain rfl := List.mem_singleton.1 hp; exact ⟨ht, hm.1, hm.2⟩⟩
theorem edgesE_ok {P : Int} : ∀ {es : List S78} {i : Nat}, (∀ e ∈ es, I64 e.f0 ∧ I64 e.f1) → i + es.length ≤ 1000 → OkO (edgesE P es i)
  | [], _, _, _ => trivial
  | e :: r, i, h, hl => by
    obtain ⟨h0, h1⟩ := h e (by simp)
    have hi : I64 (i : Int) := by simp at hl; constructor <;> omega
    rw [edgesE_cons]
    split
    · exact ⟨by decide, by decide, okT_two (by decide) hi (by decide) h0⟩
    · split
      · exact ⟨by decide, by decide, okT_two (by decide) hi (by decide) h1⟩
      · exact edgesE_ok (fun e he => h e (by simp [he])) (by simp at hl; omega)
theorem inputsL_ok {P : Int} {ins : List Int} : ∀ {r : List Int} {i : Nat}, i + r.length ≤ 1000 → OkO (inputsL P ins r i)
  | [], _, _ => trivial
  | p :: r, i, hl => by
    have hi : I64 (i : Int) := by simp at hl; constructor <;> omega
    rw [inputsL_cons]
    split
    · exact ⟨by decide, by decide, okT_one (by decide) hi⟩
    · split
      · exact ⟨by decide, by decide, okT_one (by decide) hi⟩
      · exact inputsL_ok (by simp at hl; omega)
theorem checkE_ok {P : Int} {es : List S78} {ins : List Int} (h : ∀ e ∈ es, I64 e.f0 ∧ I64 e.f1) : OkO (checkE P es ins) := by
  unfold checkE
  split
  · exact ⟨by decide, by decide, okT_nil⟩
  · split
    · exact ⟨by decide, by decide, okT_nil⟩
    · rename_i h1 h2
      unfold checkT
      have he := edgesE_ok (P := P) (es := es) (i := 0) h (by omega)
      split
      · rename_i q hq
        rw [hq] at he; exact he
      · rename_i hq
        unfold checkI
        have hin : OkO (inputsE P ins) := by
          unfold inputsE
          split
          · exact ⟨by decide, by decide, okT_nil⟩
          · exact inputsL_ok (by omega)
        split
        · rename_i q hq2
          rw [hq2] at hin; exact hin
        · unfold checkC
          split
          · rename_i hc
            refine ⟨by decide, by decide, okT_one (by decide) ?_⟩
            -- the port is some edge's own
            have hnn : ∀ e ∈ es, 0 ≤ e.f0 := fun e he' => (edgesE_none hq e he').1
            obtain ⟨i1, _, _⟩ := cyc_least (Fw.ways P.toNat (esOf es)) es (-1) hnn
            unfold cycleF at hc ⊢
            rcases i1 with i1 | ⟨y, hy, _, hz⟩
            · omega
            · rw [hz]; exact (h y hy).1
          · trivial


set_option maxHeartbeats 2000000 in
set_option maxRecDepth 100000 in
theorem rpaths_calls (P : Int) (AE AI : Option Addr) (cE cI : Nat) (es : List S49) (ins : List Int) (w : World) (hE : Kd.C k49 w AE es.length es) (hcE : es.length ≤ cE) (hI : Kd.C (Kd.int .i64) w AI ins.length ins) (hcI : ins.length ≤ cI) (ha : EAdd (es.map conv)) (hf : ∀ e ∈ es.map conv, I64 e.f0 ∧ I64 e.f1) :
    Calls Tryd.prog 14 #[.agg #[.int .i64 P, .slice AE es.length cE, .slice AI ins.length cI]] w fun e w' => ∃ v, e = .returned v ∧ PathsO w' w.heap.size P (es.map conv) ins v ∧ Below w.heap.size w w' := by
  have HE := Asd.mk hE
  have HI := Asd.mk hI
  have HCI := Asd.mk hcI
  have HCE := Asd.mk hcE
  have HA := Asd.mk ha
  have HF := Asd.mk hf
  clear hE hI hcI ha hcE hf
  have HB := Asd.mk (below_al (Below.refl w.heap.size w) (.cells #[.int .i64 P, .slice AE es.length cE, .slice AI ins.length cI] 25))
  have HG : Asd (∀ {W : World}, Below (w.alloc (.cells #[.int .i64 P, .slice AE es.length cE, .slice AI ins.length cI] 25)).heap.size (w.alloc (.cells #[.int .i64 P, .slice AE es.length cE, .slice AI ins.length cI] 25)) W → W.cell? ⟨w.heap.size, 0, none⟩ = some (.int .i64 P) ∧ W.cell? ⟨w.heap.size, 1, none⟩ = some (.slice AE es.length cE) ∧ W.cell? ⟨w.heap.size, 2, none⟩ = some (.slice AI ins.length cI)) :=
    ⟨fun {W} hb => ⟨cell_keep hb (by simp), cell_keep hb (by simp), cell_keep hb (by simp)⟩⟩
  go_enter Tryd.func14, Tryd.ntmps14
  go_wp2_with fail
  generalize w.alloc (.cells #[.int .i64 P, .slice AE es.length cE, .slice AI ins.length cI] 25) = W0 at *
  refine (rcheck_calls P AE AI cE cI es ins _ (Kd.C_below HE.out HB.out) HCE.out (Kd.C_below HI.out HB.out) HCI.out HA.out).mono ?_
  rintro e w1 ⟨v1, rfl, hv1, hb⟩
  have HB1 := Asd.mk hb
  clear hb
  cases hck : checkE P (es.map conv) ins with
  | some q =>
    obtain ⟨q0, q1⟩ := q
    have hq0 : (q0 != 0) = true := by
      have hok := checkE_ok (P := P) (ins := ins) HF.out
      rw [hck] at hok
      rw [bne_iff_ne]; have := hok.1; omega
    have HQ := Asd.mk hck
    clear hv1 hck
    have hc1 : codeOf (some (q0, q1)) = q0 := rfl
    go_wp2
    go_ret
    exact ⟨_, rfl, by unfold PathsO; rw [if_neg (by rw [HQ.out]; simp)]; rfl, HB.out.trans (HB1.out.mono HB.out.size)⟩
  | none =>
    have HQ := Asd.mk hck
    obtain ⟨g0, g1, g2⟩ := HG.out HB1.out
    obtain ⟨hp1, hp2, hed⟩ := checkE_none hck
    obtain ⟨n, rfl⟩ := Int.eq_ofNat_of_zero_le (show 0 ≤ P by omega)
    have hin := EIn_of hed HA.out
    have HIN := Asd.mk hin
    have HIN49 : Asd (EIn49 n es) := ⟨fun e he => hin (conv e) (List.mem_map.2 ⟨e, he, rfl⟩)⟩
    clear hed hck hv1 hin
    go_wp2_with fail
    refine (closed_calls n (by omega) (by omega) AE AI cE cI es ins.length _ (Kd.C_below HE.out (HB.out.trans (HB1.out.mono HB.out.size))) HIN49.out).mono ?_
    rintro e w3 ⟨v, rows, rfl, hm, hb⟩
    have HW : Asd (Fw.closedP n (esOf49 es) = Fw.ways n (esOf (es.map conv))) := ⟨by
      have e1 : esOf49 es = esOf (es.map conv) := by simp [esOf49, esOf, conv, List.map_map, Function.comp_def]
      rw [e1]
      exact Fw.closed_ways (ways_of HIN.out)⟩
    rw [HW.out] at hm
    have HM := Asd.mk hm
    have HB2 := Asd.mk (HB1.out.trans (hb.mono HB1.out.size))
    clear hm hb g0 g1 g2
    go_wp2
    go_ret
    refine ⟨_, rfl, ?_, HB.out.trans (HB2.out.mono HB.out.size)⟩
    unfold PathsO
    rw [if_pos HQ.out, Int.toNat_natCast]
    exact ⟨rows, HM.out.lower (Nat.le_trans HB.out.size HB1.out.size)⟩
end Go.Proofs.YtcgjdljhpcjmeaaDoor

namespace Go.Proofs.YtcgjdljhpcjmeaaDoor
open Go.RowKit Go.Extern.Stop Go.Stop Go.Extern Go.Proofs.YtcgjdljhpcjmeaaDoorW.PrintWords Go.Proofs.YtcgjdljhpcjmeaaDoorW.PrintMore

def decB (u : Nat) : ByteArray := ⟨(Lib.decDigits u).toArray⟩
theorem decB_one : ∀ u : Nat, u < 10 → decB u = ⟨#[UInt8.ofNat (48 + u)]⟩ := fun u h => by
  unfold decB; rw [Lib.decDigits, dif_pos h]
theorem decB_more (u : Nat) (h : ¬ u < 10) : decB u = decB (u / 10) ++ decB (u % 10) := by
  rw [decB_one (u % 10) (by omega)]
  unfold decB
  conv => lhs; rw [Lib.decDigits, dif_neg h]
  apply ByteArray.ext
  simp
theorem decB_size (u : Nat) (h : u < 18446744073709551616) : (decB u).size ≤ 20 := by
  have := Lib.nDigits_le20 u h
  simpa [decB, ByteArray.size, Lib.decDigits_length] using this

set_option maxHeartbeats 1000000 in
set_option maxRecDepth 100000 in
theorem num1_small (n : Int) (h0 : 0 ≤ n) (h1 : n < 10) (w : World) : Calls Tryd.prog 66 #[.int .u64 n] w fun e w' => e = .returned (.string (decB n.toNat)) ∧ Below w.heap.size w w' := by
  have H : n = 0 ∨ n = 1 ∨ n = 2 ∨ n = 3 ∨ n = 4 ∨ n = 5 ∨ n = 6 ∨ n = 7 ∨ n = 8 ∨ n = 9 := by omega
  clear h0 h1
  rcases H with rfl | rfl | rfl | rfl | rfl | rfl | rfl | rfl | rfl | rfl
  all_goals
    go_enter Tryd.func66, Tryd.ntmps66
    go_wp2
    go_ret
    exact ⟨by rw [decB_one _ (by decide)]; rfl, Below.refl _ _⟩

set_option maxHeartbeats 1000000 in
set_option maxRecDepth 100000 in
theorem num1_calls : ∀ (k : Nat) (n : Int) (h0 : 0 ≤ n) (h1 : n < 18446744073709551616) (hk : n.toNat < k) (w : World), Calls Tryd.prog 66 #[.int .u64 n] w fun e w' => e = .returned (.string (decB n.toNat)) ∧ Below w.heap.size w w'
  | 0, n, h0, h1, hk, w => by omega
  | k + 1, n, h0, h1, hk, w => by
    by_cases hs : n < 10
    · exact num1_small n h0 hs w
    · have IH := Asd.mk (num1_calls k (n / 10) (by omega) (by omega) (by omega))
      have HD : Asd (decB n.toNat = decB (n / 10).toNat ++ decB (n % 10).toNat) := ⟨by
        rw [decB_more n.toNat (by omega)]
        congr 2 <;> omega⟩
      have hz1 := decB_size (n / 10).toNat (by omega)
      have e1 : n.tdiv 10 = n / 10 := Int.tdiv_eq_ediv_of_nonneg h0
      have e2 : n.tmod 10 = n % 10 := Int.tmod_eq_emod_of_nonneg h0
      have e3 : IntKind.u64.wrap (n / 10) = n / 10 := by unfold IntKind.wrap; simp [IntKind.bits, IntKind.signed]; omega
      have m0 : n % 10 = 0 ∨ n % 10 = 1 ∨ n % 10 = 2 ∨ n % 10 = 3 ∨ n % 10 = 4 ∨ n % 10 = 5 ∨ n % 10 = 6 ∨ n % 10 = 7 ∨ n % 10 = 8 ∨ n % 10 = 9 := by omega
      rw [decB_one (n % 10).toNat (by omega)] at HD
      clear hk
      generalize n % 10 = d at *
      generalize n / 10 = q at *
      have hz2 : ¬ (9223372036854775807 < (decB q.toNat).size + 1) := by omega
      have HZ := Asd.mk hz1
      clear hz1
      rcases m0 with rfl | rfl | rfl | rfl | rfl | rfl | rfl | rfl | rfl | rfl
      all_goals
        have w1 : IntKind.u64.wrap 1 = 1 := by kernel_rfl
        have w2 : IntKind.u64.wrap 2 = 2 := by kernel_rfl
        have w3 : IntKind.u64.wrap 3 = 3 := by kernel_rfl
        have w4 : IntKind.u64.wrap 4 = 4 := by kernel_rfl
        have w5 : IntKind.u64.wrap 5 = 5 := by kernel_rfl
        have w6 : IntKind.u64.wrap 6 = 6 := by kernel_rfl
        have w7 : IntKind.u64.wrap 7 = 7 := by kernel_rfl
        have w8 : IntKind.u64.wrap 8 = 8 := by kernel_rfl
        have w9 : IntKind.u64.wrap 9 = 9 := by kernel_rfl
        have w10 : IntKind.u64.wrap 10 = 10 := by kernel_rfl
        go_enter Tryd.func66, Tryd.ntmps66
        go_wp2_with fail
        refine region_plan (fun w' => True) []
          [(0, 0), (1, 0), (3, 0), (4, 0), (5, 0), (6, 0), (7, 0), (8, 0), (2, 2), (9, 0), (10, 0)]
          (by kernel_rfl) (by kernel_rfl) (by intro _ _ d _ _ h; cases d <;> exact h) trivial ?_
        repeat (first
          | (refine plan_pure (v := ?_) (a' := ?_) rfl rfl (Or.inl ⟨rfl, ?_⟩) ?_ ?_
             rotate_left 2
             · intro w'
               go_simp
               with_reducible rfl
             · simp only [Act.put, List.setIfInBounds_toArray, List.set_cons_zero, List.set_cons_succ]
               rfl))
        refine plan_call rfl rfl Tryd.func66 (by kernel_rfl) rfl [.int .u64 q] (by rfl) rfl (by rfl) ?_
        refine (IH.out _).mono ?_
        rintro e w1 ⟨rfl, hb⟩
        refine ⟨_, rfl, trivial, ?_⟩
        refine plan_norm (a' := ?_) ?_ ?_
        rotate_left
        · simp only [Act.put, List.setIfInBounds_toArray, List.set_cons_zero, List.set_cons_succ]
          rfl
        repeat (first
          | (refine plan_pure (v := ?_) (a' := ?_) rfl rfl (Or.inl ⟨rfl, ?_⟩) ?_ ?_
             rotate_left 2
             · intro w'
               go_simp
               with_reducible rfl
             · simp only [Act.put, List.setIfInBounds_toArray, List.set_cons_zero, List.set_cons_succ]
               rfl))
        refine plan_nil ?_
        have HB := Asd.mk (below_step (below_drew (Below.refl w.heap.size w)) hb)
        clear hb
        go_wp2
        go_ret
        exact ⟨by rw [HD.out]; rfl, HB.out⟩

def numB (n : Int) : ByteArray := itoaB n
theorem itoaB_nonneg (n : Int) (h : 0 ≤ n) : itoaB n = decB n.toNat := by
  unfold itoaB decB Lib.itoa; rw [if_neg (by omega)]
theorem itoaB_neg (n : Int) (h : n < 0) : itoaB n = ⟨#[45]⟩ ++ decB n.natAbs := by
  unfold itoaB decB Lib.itoa; rw [if_pos h]
  apply ByteArray.ext
  simp

set_option maxHeartbeats 1000000 in
set_option maxRecDepth 100000 in
theorem num_calls (n : Int) (h0 : -9223372036854775808 ≤ n) (h1 : n ≤ 9223372036854775807) (w : World) : Calls Tryd.prog 41 #[.int .i64 n] w fun e w' => e = .returned (.string (itoaB n)) ∧ Below w.heap.size w w' := by
  by_cases hn : n < 0
  · have HI := Asd.mk (itoaB_neg n hn)
    rw [HI.out]
    have e1 : (-(n + 1) + 1).toNat = n.natAbs := by omega
    have e2 : IntKind.u64.wrap (-(n + 1)) = -(n + 1) := IntWalk.u64_in _ (by omega)
    have HS := decB_size n.natAbs (by omega)
    have hz : ¬ (9223372036854775807 < 1 + (decB n.natAbs).size) := by omega
    have E1 := Asd.mk e1
    clear HS e1
    go_enter Tryd.func41, Tryd.ntmps41
    go_wp2_with fail
    refine (num1_calls _ (-(n + 1) + 1) (by omega) (by omega) (Nat.lt_succ_self _) _).mono ?_
    rintro e w1 ⟨rfl, hb⟩
    rw [E1.out]
    have HB := Asd.mk hb
    clear hb
    go_wp2
    go_ret
    exact ⟨rfl, HB.out⟩
  · rw [itoaB_nonneg n (by omega)]
    have e2 : IntKind.u64.wrap n = n := by unfold IntKind.wrap; simp [IntKind.bits, IntKind.signed]; omega
    go_enter Tryd.func41, Tryd.ntmps41
    go_wp2_with fail
    refine (num1_calls _ n (by omega) (by omega) (Nat.lt_succ_self _) _).mono ?_
    rintro e w1 ⟨rfl, hb⟩
    have HB := Asd.mk hb
    clear hb
    go_wp2
    go_ret
    exact ⟨rfl, HB.out⟩

set_option maxHeartbeats 1000000 in
set_option maxRecDepth 100000 in
theorem word42_calls (k : Int) (h0 : 0 ≤ k) (h1 : k ≤ 4) (w : World) :
    Calls Tryd.prog 42 #[.int .i64 k] w fun e w' => e = .returned (.string (wordOf k)) ∧ Below w.heap.size w w' := by
  have hk : k = 0 ∨ k = 1 ∨ k = 2 ∨ k = 3 ∨ k = 4 := by omega
  clear h0 h1
  rcases hk with rfl | rfl | rfl | rfl | rfl
  all_goals
    go_enter Tryd.func42, Tryd.ntmps42
    go_wp2
    go_ret
    exact ⟨rfl, below_al (Below.refl _ _) _⟩

theorem cells80_at : ∀ (l : List (ByteArray × Int)) (j : Nat) (p : ByteArray × Int), l[j]? = some p → (cells80 l)[j * 2]? = some (.string p.1) ∧ (cells80 l)[j * 2 + 1]? = some (.int .i64 p.2)
  | [], j, e, h => by simp at h
  | x :: r, 0, e, h => by
    obtain rfl : x = e := by simpa using h
    exact ⟨rfl, rfl⟩
  | x :: r, j + 1, e, h => by
    have ih := cells80_at r j e (by simpa using h)
    have e1 : (j + 1) * 2 = j * 2 + 2 := by omega
    rw [e1]
    exact ih
theorem PlR.view {w : World} : ∀ {l : List (ByteArray × Int)} {v : Value}, PlR w l v → ∃ A, v = .slice A l.length l.length ∧ ∀ (j : Nat) p, l[j]? = some p → ∃ b, A = some ⟨b, 0, none⟩ ∧ w.cell? ⟨b, j * 2, none⟩ = some (.string p.1) ∧ w.cell? ⟨b, j * 2 + 1, none⟩ = some (.int .i64 p.2)
  | [], _, h => ⟨none, h, fun j p hp => by simp at hp⟩
  | q :: l, _, ⟨b, e, h⟩ => ⟨some ⟨b, 0, none⟩, e, fun j p hp => by
    obtain ⟨h0, h1⟩ := cells80_at (q :: l) j p hp
    refine ⟨b, rfl, ?_, ?_⟩
    · rw [blk_cell h, List.getElem?_toArray, h0]
    · rw [blk_cell h, List.getElem?_toArray, h1]⟩

set_option maxHeartbeats 1000000 in
set_option maxRecDepth 100000 in
theorem rtext_calls (k : Int) (l : List (ByteArray × Int)) (v : Value) (w : World) (h : PlR w l v) (hlen : l.length < 1000) (hk0 : 0 ≤ k) (hk1 : k ≤ 4)
    (hs : ∀ p ∈ l, p.1.size ≤ 100 ∧ -9223372036854775808 ≤ p.2 ∧ p.2 ≤ 9223372036854775807) :
    Calls Tryd.prog 16 #[v, .int .i64 k] w fun e w' => e = .returned (.string (placesB l ++ wordOf k)) ∧ Below w.heap.size w w' := by
  obtain ⟨A, rfl, hv⟩ := h.view
  have HV := Asd.mk hv
  have HS := Asd.mk hs
  clear hv hs h
  go_enter Tryd.func16, Tryd.ntmps16
  go_wp2_with fail
  go_loopw [5, 6] (fun v5 v6 w' => ∃ j : Nat, j ≤ l.length ∧ v6 = .int .i64 j ∧ v5 = .string (placesB (l.take j)) ∧ Asd (Below w.heap.size w w')) (fun _ v6 _ => l.length - (intOf v6).toNat)
  case atStart => exact ⟨0, Nat.zero_le _, rfl, rfl, ⟨Below.refl _ _⟩⟩
  case round =>
    obtain ⟨j, hj, rfl, rfl, HB⟩ := hrel
    by_cases hlt : j < l.length
    · obtain ⟨p, hp⟩ : ∃ p, l[j]? = some p := ⟨_, List.getElem?_eq_getElem hlt⟩
      obtain ⟨b, rfl, c0, c1⟩ := HV.out j p hp
      have hpl := HS.out p (List.mem_of_getElem? hp)
      have hz1 : (placesB (l.take j)).size ≤ 124000 := by
        have := placesB_size (l.take j) (fun q hq => HS.out q (List.mem_of_mem_take hq))
        have := List.length_take_le j l
        omega
      have hz3 := itoaB_size p.2 hpl.2.1 hpl.2.2
      have HX : Asd (placesB (l.take (j + 1)) = placesB (l.take j) ++ p.1 ++ ⟨#[32]⟩ ++ itoaB p.2 ++ ⟨#[58, 32]⟩) := ⟨by
        rw [List.take_add_one, hp, placesB_app]
        simp only [Option.toList_some, placesB, ByteArray.append_assoc]
        rw [show (⟨#[]⟩ : ByteArray) = ByteArray.empty from rfl, ByteArray.append_empty]⟩
      generalize placesB (l.take j) = X at *
      obtain ⟨p1, p2⟩ := p
      simp only at hpl hz3 HX c0 c1
      have n1 : ¬ (9223372036854775807 < X.size + p1.size) := by omega
      have n2 : ¬ (9223372036854775807 < X.size + p1.size + 1) := by omega
      have n3 : ¬ (9223372036854775807 < X.size + p1.size + 1 + (itoaB p2).size) := by omega
      have n4 : ¬ (9223372036854775807 < X.size + p1.size + 1 + (itoaB p2).size + 2) := by omega
      have HPL := Asd.mk hpl
      clear hpl hp hz1 hz3
      have d0 := Asd.mk (cell_keep HB.out c0)
      have d1 := Asd.mk (cell_keep HB.out c1)
      clear c0 c1
      go_wp2_with fail
      refine region_plan (fun w' => w'.cell? ⟨b, j * 2, none⟩ = some (.string p1) ∧ w'.cell? ⟨b, j * 2 + 1, none⟩ = some (.int .i64 p2)) []
        [(0, 0), (1, 0), (2, 0), (3, 0), (4, 0), (5, 1), (6, 0), (7, 0), (8, 0), (9, 0), (10, 0), (11, 0), (12, 1), (13, 2), (14, 0), (15, 0), (16, 0)]
        (by kernel_rfl) (by kernel_rfl) (by intro _ _ d _ _ h; cases d <;> exact h) ⟨d0.out, d1.out⟩ ?_
      repeat (first
        | (refine plan_pure (v := ?_) (a' := ?_) rfl rfl (Or.inl ⟨rfl, ?_⟩) ?_ ?_
           rotate_left 2
           · intro w'
             go_simp
             with_reducible rfl
           · simp only [Act.put, List.setIfInBounds_toArray, List.set_cons_zero, List.set_cons_succ]
             rfl)
        | (refine plan_load (v := ?_) (a' := ?_) rfl rfl (Or.inl ⟨rfl, ?_⟩) ?_ ?_
           rotate_left 2
           · rintro w' ⟨s0, s1⟩
             go_simp
             with_reducible rfl
           · simp only [Act.put, List.setIfInBounds_toArray, List.set_cons_zero, List.set_cons_succ]
             rfl))
      refine plan_call rfl rfl Tryd.func41 (by kernel_rfl) rfl [.int .i64 p2] (by rfl) rfl (by rfl) ?_
      refine (num_calls p2 HPL.out.2.1 HPL.out.2.2 _).mono ?_
      rintro e w1 ⟨rfl, hb⟩
      have HB1 := Asd.mk (below_step (below_drew HB.out) hb)
      refine ⟨_, rfl, ⟨cell_keep hb d0.out, cell_keep hb d1.out⟩, ?_⟩
      clear hb
      refine plan_norm (a' := ?_) ?_ ?_
      rotate_left
      · simp only [Act.put, List.setIfInBounds_toArray, List.set_cons_zero, List.set_cons_succ]
        rfl
      repeat (first
        | (refine plan_pure (v := ?_) (a' := ?_) rfl rfl (Or.inl ⟨rfl, ?_⟩) ?_ ?_
           rotate_left 2
           · intro w'
             go_simp
             with_reducible rfl
           · simp only [Act.put, List.setIfInBounds_toArray, List.set_cons_zero, List.set_cons_succ]
             rfl)
        | (refine plan_load (v := ?_) (a' := ?_) rfl rfl (Or.inl ⟨rfl, ?_⟩) ?_ ?_
           rotate_left 2
           · rintro w' ⟨s0, s1⟩
             go_simp
             with_reducible rfl
           · simp only [Act.put, List.setIfInBounds_toArray, List.set_cons_zero, List.set_cons_succ]
             rfl))
      refine plan_nil ?_
      go_wp2
      go_roundw
      case measure => simp [intOf]; omega
      case rel => exact ⟨j + 1, by omega, by go_num, by rw [HX.out], HB1⟩
    · obtain rfl : j = l.length := by omega
      have hz := placesB_size l (fun q hq => HS.out q hq)
      rw [List.take_length]
      go_wp2_with fail
      refine (word42_calls k hk0 hk1 _).mono ?_
      rintro e w1 ⟨rfl, hb⟩
      have HB1 := Asd.mk (below_step HB.out hb)
      have hw := wordOf_size k
      have n9 : ¬ (9223372036854775807 < (placesB l).size + (wordOf k).size) := by omega
      clear hb
      go_wp2
      go_ret
      exact ⟨rfl, HB1.out⟩
end Go.Proofs.YtcgjdljhpcjmeaaDoor

namespace Go.Proofs.YtcgjdljhpcjmeaaDoor
open Go.RowKit Go.Proofs.YtcgjdljhpcjmeaaDoorW.PrintWords Go.Proofs.YtcgjdljhpcjmeaaDoorW.PrintMore PGraphChecks

theorem rcheck_n (P : Int) (AE AI : Option Addr) (n m cE cI : Nat) (es : List S49) (ins : List Int) (w : World) (hn : es.length = n) (hm : ins.length = m) (hE : Kd.C k49 w AE n es) (hcE : n ≤ cE) (hI : Kd.C (Kd.int .i64) w AI m ins) (hcI : m ≤ cI) (ha : EAdd (es.map conv)) :
    Calls Tryd.prog 9 #[.agg #[.int .i64 P, .slice AE n cE, .slice AI m cI]] w fun e w' => RefO w (checkE P (es.map conv) ins) e w' := by
  subst hn; subst hm
  exact rcheck_calls P AE AI cE cI es ins w hE hcE hI hcI ha
theorem rpaths_n (P : Int) (AE AI : Option Addr) (n m cE cI : Nat) (es : List S49) (ins : List Int) (w : World) (hn : es.length = n) (hm : ins.length = m) (hE : Kd.C k49 w AE n es) (hcE : n ≤ cE) (hI : Kd.C (Kd.int .i64) w AI m ins) (hcI : m ≤ cI) (ha : EAdd (es.map conv)) (hf : ∀ e ∈ es.map conv, I64 e.f0 ∧ I64 e.f1) :
    Calls Tryd.prog 14 #[.agg #[.int .i64 P, .slice AE n cE, .slice AI m cI]] w fun e w' => ∃ v, e = .returned v ∧ PathsO w' w.heap.size P (es.map conv) ins v ∧ Below w.heap.size w w' := by
  subst hn; subst hm
  exact rpaths_calls P AE AI cE cI es ins w hE hcE hI hcI ha hf

set_option maxHeartbeats 4000000 in
set_option maxRecDepth 100000 in
theorem checks_calls (P : Int) (AE AI : Option Addr) (n m cE cI : Nat) (es0 : List S49) (ins0 : List Int) (w : World) (hl : Laid w) (hE : Kd.C k49 w AE n es0) (hcE : n ≤ cE) (hI : Kd.C (Kd.int .i64) w AI m ins0) (hcI : m ≤ cI)
    (ha : EAdd (es0.map conv)) (hf : ∀ e ∈ es0.map conv, I64 e.f0 ∧ I64 e.f1) :
    Calls Tryd.prog 3 #[.agg #[.int .i64 P, .slice AE n cE, .slice AI m cI]] w fun e w' => e = .returned (.bool true) ∧ Below w.heap.size w w' := by
  have hn2 := hE.2.1
  have hm2 := hI.2.1
  have HL := Asd.mk hl
  have HB0 := Asd.mk (below_al (Below.refl w.heap.size w) (.cells #[.int .i64 P, .slice AE n cE, .slice AI m cI] 25))
  have HG0 : Asd ((w.alloc (.cells #[.int .i64 P, .slice AE n cE, .slice AI m cI] 25)).heap[w.heap.size]? = some (.cells #[.int .i64 P, .slice AE n cE, .slice AI m cI] 25 (0, 0))) := ⟨blk_new rfl⟩
  have HE0 := Asd.mk (k49_take hE (min n 300) (Nat.min_le_left _ _))
  have HI0 := Asd.mk (kint_take hI (min m 20) (Nat.min_le_left _ _))
  have HA0 : Asd (EAdd ((es0.take (min n 300)).map conv)) := ⟨fun e he => ha e (by rw [List.map_take] at he; exact List.mem_of_mem_take he)⟩
  have HF0 : Asd (∀ e ∈ (es0.take (min n 300)).map conv, I64 e.f0 ∧ I64 e.f1) := ⟨fun e he => hf e (by rw [List.map_take] at he; exact List.mem_of_mem_take he)⟩
  have q1 : min n 300 ≤ cE := by omega
  have q2 : min m 20 ≤ cI := by omega
  have q3 : min n 300 ≤ 300 := by omega
  have q4 : min m 20 ≤ 20 := by omega
  obtain ⟨n1, hn1⟩ : ∃ n1, n1 = min n 300 := ⟨_, rfl⟩
  obtain ⟨m1, hm1⟩ : ∃ m1, m1 = min m 20 := ⟨_, rfl⟩
  have N1 := Asd.mk hn1
  have M1 := Asd.mk hm1
  rw [← hn1] at HE0 HA0 HF0 q1 q3
  rw [← hm1] at HI0 q2 q4
  clear hE hI ha hf hl hn1 hm1
  generalize es0.take n1 = es1 at *
  generalize ins0.take m1 = ins1 at *
  go_enter Tryd.func3, Tryd.ntmps3
  go_wp2_with fail
  generalize w.alloc (.cells #[.int .i64 P, .slice AE n cE, .slice AI m cI] 25) = W0 at *
  have T1 := few_calls P AE AI n m n1 m1 cE cI N1.out M1.out W0 hcE hcI hn2 hm2
  refine T1.mono ?_
  clear T1
  rintro e w1 ⟨rfl, hb⟩
  have HG1 := Asd.mk (blk_keep hb HG0.out)
  have HB1 := Asd.mk (HB0.out.trans (hb.mono HB0.out.size))
  clear hb HG0 HB0
  have hcut : ∃ (n2 : Nat) (es : List S49), (n2 = if 24 < P ∧ P ≤ 64 ∧ 60 < n1 then 60 else n1) ∧ es = es1.take n2 ∧ es.length = n2 ∧ n2 ≤ 300 ∧ n2 ≤ cE := ⟨_, es1.take _, rfl, rfl, by
    have := HE0.out.1
    rw [List.length_take]; split <;> omega, by split <;> omega, by split <;> omega⟩
  have HG2 : Asd (((((w1.setCell ⟨w.heap.size, 0, none⟩ (.int .i64 P)).setCell ⟨w.heap.size, 1, none⟩ (.slice AE n1 cE)).setCell ⟨w.heap.size, 2, none⟩ (.slice AI m1 cI))).heap[w.heap.size]? = some (.cells #[.int .i64 P, .slice AE n1 cE, .slice AI m1 cI] 25 (0, 0))) := ⟨by
    rw [setCell_block (setCell_block (setCell_block HG1.out _) _)]; rfl⟩
  have c0 := blk_cell (i := 0) HG1.out
  have c1 := blk_cell (i := 1) HG1.out
  have c2 := blk_cell (i := 2) HG1.out
  have f0 : w1.frozen? ⟨w.heap.size, 0, none⟩ = false := by simp [World.frozen?, HG1.out]
  have f1 : w1.frozen? ⟨w.heap.size, 1, none⟩ = false := by simp [World.frozen?, HG1.out]
  have f2 : w1.frozen? ⟨w.heap.size, 2, none⟩ = false := by simp [World.frozen?, HG1.out]
  have HB2 : Asd (Below w.heap.size w (((w1.setCell ⟨w.heap.size, 0, none⟩ (.int .i64 P)).setCell ⟨w.heap.size, 1, none⟩ (.slice AE n1 cE)).setCell ⟨w.heap.size, 2, none⟩ (.slice AI m1 cI))) := ⟨((HB1.out.setCell (Nat.le_refl _) _).setCell (Nat.le_refl _) _).setCell (Nat.le_refl _) _⟩
  clear hcut
  go_upto_region 2 with (fail)
  clear c0 c1 c2 f0 f1 f2 HB1 HG1
  generalize ((w1.setCell ⟨w.heap.size, 0, none⟩ (.int .i64 P)).setCell ⟨w.heap.size, 1, none⟩ (.slice AE n1 cE)).setCell ⟨w.heap.size, 2, none⟩ (.slice AI m1 cI) = W1 at *
  have c0 := blk_cell (i := 0) HG2.out
  have c1 := blk_cell (i := 1) HG2.out
  have c2 := blk_cell (i := 2) HG2.out
  have f1 : W1.frozen? ⟨w.heap.size, 1, none⟩ = false := by simp [World.frozen?, HG2.out]
  have HCB : Asd ((24 < P ∧ P ≤ 64 ∧ 60 < n1) ∨ ¬ (24 < P ∧ P ≤ 64 ∧ 60 < n1)) := ⟨Classical.em _⟩
  obtain ⟨n2, W2, hn2, HGX, HBX, hnc⟩ : ∃ (n2 : Nat) (W2 : World), n2 ≤ n1 ∧ Asd (W2.heap[w.heap.size]? = some (.cells #[.int .i64 P, .slice AE n2 cE, .slice AI m1 cI] 25 (0, 0))) ∧ Asd (Below w.heap.size w W2) ∧ Asd ((24 < P ∧ P ≤ 64 ∧ 60 < n1 ∧ n2 = 60 ∧ W2 = W1.setCell ⟨w.heap.size, 1, none⟩ (.slice AE 60 cE)) ∨ (¬ (24 < P ∧ P ≤ 64 ∧ 60 < n1) ∧ n2 = n1 ∧ W2 = W1)) := by
    by_cases hc : 24 < P ∧ P ≤ 64 ∧ 60 < n1
    · exact ⟨60, _, by omega, ⟨by rw [setCell_block HG2.out]; rfl⟩, ⟨HB2.out.setCell (Nat.le_refl _) _⟩, ⟨.inl ⟨hc.1, hc.2.1, hc.2.2, rfl, rfl⟩⟩⟩
    · exact ⟨n1, _, Nat.le_refl _, HG2, HB2, ⟨.inr ⟨hc, rfl, rfl⟩⟩⟩
  obtain ⟨bb, hbb⟩ : ∃ bb : Bool, Asd (bb = decide (24 < P ∧ P ≤ 64 ∧ 60 < n1)) := ⟨_, ⟨rfl⟩⟩
  clear HCB
  go_cut [21] (fun s21 wx => s21 = .bool bb ∧ wx = W1)
  case first =>
    by_cases g1 : P > 24
    · by_cases g2 : P ≤ 64
      · by_cases g3 : (n1 : Int) > 60
        · obtain rfl : bb = true := by rw [hbb.out]; exact decide_eq_true ⟨g1, g2, by omega⟩
          go_wp2
          go_meet
          case rel => exact ⟨rfl, rfl⟩
        · obtain rfl : bb = false := by rw [hbb.out]; exact decide_eq_false (fun h => by omega)
          go_wp2
          go_meet
          case rel => exact ⟨rfl, rfl⟩
      · obtain rfl : bb = false := by rw [hbb.out]; exact decide_eq_false (fun h => by omega)
        go_wp2
        go_meet
        case rel => exact ⟨rfl, rfl⟩
    · obtain rfl : bb = false := by rw [hbb.out]; exact decide_eq_false (fun h => by omega)
      go_wp2
      go_meet
      case rel => exact ⟨rfl, rfl⟩
  case rest =>
    obtain ⟨rfl, rfl⟩ := hcut
    go_upto_if 21 with (fail)
    go_cut [] (fun wx => wx = W2)
    case first =>
      rcases hnc.out with ⟨g1, g2, g3, rfl, rfl⟩ | ⟨g1, rfl, rfl⟩
      · obtain rfl : bb = true := by rw [hbb.out]; exact decide_eq_true ⟨g1, g2, by omega⟩
        clear hbb hnc
        have g4 : (60 : Int) ≤ cE := by omega
        go_wp2
        go_meet
        case rel => rfl
      · obtain rfl : bb = false := by rw [hbb.out]; exact decide_eq_false g1
        clear hbb hnc
        go_wp2
        go_meet
        case rel => rfl
    case rest =>
      obtain rfl := hcut
      clear c0 c1 c2 f1 hnc hbb HG2 HB2
      have HE1 := Asd.mk (k49_take HE0.out n2 hn2)
      have HA1 : Asd (EAdd ((es1.take n2).map conv)) := ⟨fun e he => HA0.out e (by rw [List.map_take] at he; exact List.mem_of_mem_take he)⟩
      have HF1 : Asd (∀ e ∈ (es1.take n2).map conv, I64 e.f0 ∧ I64 e.f1) := ⟨fun e he => HF0.out e (by rw [List.map_take] at he; exact List.mem_of_mem_take he)⟩
      clear HE0 HA0 HF0
      generalize es1.take n2 = es at *
      have HLR : Asd (es.length = n2) := ⟨HE1.out.1⟩
      have HLI : Asd (ins1.length = m1) := ⟨HI0.out.1⟩
      have x1 : n2 ≤ cE := by omega
      have x2 : n2 ≤ 1000000 := by omega
      have x3 : m1 ≤ 1000000 := by omega
      have hgc : ∀ i, wc.cell? ⟨w.heap.size, i, none⟩ = #[Value.int .i64 P, .slice AE n2 cE, .slice AI m1 cI][i]? := fun i => blk_cell HGX.out
      have c0 : wc.cell? ⟨w.heap.size, 0, none⟩ = some (.int .i64 P) := hgc 0
      have c1 : wc.cell? ⟨w.heap.size, 1, none⟩ = some (.slice AE n2 cE) := hgc 1
      have c2 : wc.cell? ⟨w.heap.size, 2, none⟩ = some (.slice AI m1 cI) := hgc 2
      clear hgc
      go_wp2_with fail
      have T1 := to_calls P AE AI n2 m1 cE cI es ins1 wc HLR.out HLI.out (Kd.C_below HE1.out HBX.out) x1 (Kd.C_below HI0.out HBX.out) q2 x2 x3
      refine T1.mono ?_
      clear T1 c0 c1 c2
      rintro e w2 ⟨B1, B2, d1, d2, rfl, hc1, hd1, hc2, hd2, hb⟩
      have X1 := Asd.mk hc1
      have X2 := Asd.mk hd1
      have X3 := Asd.mk hc2
      have X4 := Asd.mk hd2
      have HG2 := Asd.mk (blk_keep hb HGX.out)
      have HB2 := Asd.mk (HBX.out.trans (hb.mono HBX.out.size))
      clear hc1 hd1 hc2 hd2 hb HGX HBX
      go_wp2_with fail
      have T1 := check_n P B1 B2 n2 m1 d1 d2 (es.map conv) ins1 w2 (by rw [List.length_map, HLR.out]) HLI.out X1.out X2.out X3.out X4.out HA1.out
      refine T1.mono ?_
      clear T1
      rintro e w3 ⟨v3, rfl, hv, hb⟩
      have HV3 := Asd.mk hv
      have HG3 := Asd.mk (blk_keep hb HG2.out)
      have HB3 := Asd.mk (HB2.out.trans (hb.mono HB2.out.size))
      clear hv hb HG2 HB2 X1 X2 X3 X4
      have c0 := blk_cell (i := 0) HG3.out
      have c1 := blk_cell (i := 1) HG3.out
      have c2 := blk_cell (i := 2) HG3.out
      go_upto_region 5 with (fail)
      go_wp2_with fail
      have T1 := rcheck_n P AE AI n2 m1 cE cI es ins1 w3 HLR.out HLI.out (Kd.C_below HE1.out HB3.out) x1 (Kd.C_below HI0.out HB3.out) q2 HA1.out
      refine T1.mono ?_
      clear T1 c0 c1 c2
      rintro e w4 ⟨v4, rfl, hv, hb⟩
      have HV4 := Asd.mk (ErrO.below hb HV3.out)
      have HP4 := Asd.mk hv
      have HG4 := Asd.mk (blk_keep hb HG3.out)
      have HB4 := Asd.mk (HB3.out.trans (hb.mono HB3.out.size))
      have HL4 := Asd.mk (Laid.below HL.out HB4.out)
      clear hv hb HG3 HB3 HV3
      have HOK : Asd (OkO (checkE P (es.map conv) ins1)) := ⟨checkE_ok HF1.out⟩
      have HS : Asd (∀ w' : World, w'.heap[w.heap.size]? = some (.cells #[.int .i64 P, .slice AE n2 cE, .slice AI m1 cI] 25 (0, 0)) → w'.cell? ⟨w.heap.size, 0, none⟩ = some (.int .i64 P) ∧ w'.cell? ⟨w.heap.size, 1, none⟩ = some (.slice AE n2 cE) ∧ w'.cell? ⟨w.heap.size, 2, none⟩ = some (.slice AI m1 cI)) := ⟨fun w' h => ⟨blk_cell (i := 0) h, blk_cell (i := 1) h, blk_cell (i := 2) h⟩⟩
      have HOE : Asd (∃ o, o = checkE P (es.map conv) ins1) := ⟨⟨_, rfl⟩⟩
      obtain ⟨o, ho⟩ := HOE.out
      have HO := Asd.mk ho
      rw [← ho] at HV4 HP4 HOK ⊢
      clear ho HOE
      cases o with
      | none =>
        obtain rfl : v3 = .nilIface := HV4.out
        have hk : codeOf none = 0 := rfl
        rw [hk]
        have hck := HO.out.symm
        obtain ⟨hp1, hp2, hed⟩ := checkE_none hck
        obtain ⟨np, rfl⟩ := Int.eq_ofNat_of_zero_le (show 0 ≤ P by omega)
        have HIN := Asd.mk (EIn_of hed HA1.out)
        clear hk hck hed
        go_wp2_with fail
        refine region_plan (fun w' => w'.cell? ⟨w.heap.size, 0, none⟩ = some (.int .i64 np) ∧ w'.cell? ⟨w.heap.size, 1, none⟩ = some (.slice AE n2 cE) ∧ w'.cell? ⟨w.heap.size, 2, none⟩ = some (.slice AI m1 cI)) []
          [(0, 2), (1, 0), (2, 0), (3, 0), (5, 0), (4, 2), (6, 0), (7, 0), (8, 0), (9, 1), (12, 1), (10, 2), (11, 2), (13, 2), (14, 2), (15, 0), (16, 0)]
          (by kernel_rfl) (by kernel_rfl) (by intro _ _ d _ _ h; cases d <;> exact h) (HS.out _ HG4.out) ?_
        refine plan_call rfl rfl Tryd.func10 (by kernel_rfl) rfl [] (by rfl) rfl (by rfl) ?_
        have HB5 := Asd.mk (below_drew HB4.out)
        have HL5 : Asd (Laid w4.drew) := ⟨Laid.below HL4.out (below_drew (Below.refl _ _))⟩
        have HG5 : Asd (w4.drew.heap[w.heap.size]? = some (.cells #[.int .i64 np, .slice AE n2 cE, .slice AI m1 cI] 25 (0, 0))) := ⟨HG4.out⟩
        clear HB4 HL4 HG4
        generalize w4.drew = w5 at *
        refine (told_calls _ HL5.out).mono ?_
        rintro e w6 ⟨rfl, hb⟩
        have HG6 := Asd.mk (blk_keep hb HG5.out)
        have HB6 := Asd.mk (HB5.out.trans (hb.mono HB5.out.size))
        refine ⟨_, rfl, HS.out _ HG6.out, ?_⟩
        clear hb HB5 HL5 HG5
        refine plan_norm (a' := ?_) ?_ ?_
        rotate_left
        · simp only [Act.put, List.setIfInBounds_toArray, List.set_cons_zero, List.set_cons_succ]
          rfl
        repeat (first
          | (refine plan_pure (v := ?_) (a' := ?_) rfl rfl (Or.inl ⟨rfl, ?_⟩) ?_ ?_
             rotate_left 2
             · intro w'
               go_simp
               with_reducible rfl
             · simp only [Act.put, List.setIfInBounds_toArray, List.set_cons_zero, List.set_cons_succ]
               rfl)
          | (refine plan_load (v := ?_) (a' := ?_) rfl rfl (Or.inl ⟨rfl, ?_⟩) ?_ ?_
             rotate_left 2
             · rintro w' ⟨s0, s1, s2⟩
               go_simp
               with_reducible rfl
             · simp only [Act.put, List.setIfInBounds_toArray, List.set_cons_zero, List.set_cons_succ]
               rfl))
        refine plan_call rfl rfl Tryd.func11 (by kernel_rfl) rfl [.nilIface] (by rfl) rfl (by rfl) ?_
        refine (kind_nil _).mono ?_
        rintro e w7 ⟨rfl, rfl⟩
        refine ⟨_, rfl, HS.out _ HG6.out, ?_⟩
        refine plan_norm (a' := ?_) ?_ ?_
        rotate_left
        · simp only [Act.put, List.setIfInBounds_toArray, List.set_cons_zero, List.set_cons_succ]
          rfl
        repeat (first
          | (refine plan_pure (v := ?_) (a' := ?_) rfl rfl (Or.inl ⟨rfl, ?_⟩) ?_ ?_
             rotate_left 2
             · intro w'
               go_simp
               with_reducible rfl
             · simp only [Act.put, List.setIfInBounds_toArray, List.set_cons_zero, List.set_cons_succ]
               rfl)
          | (refine plan_load (v := ?_) (a' := ?_) rfl rfl (Or.inl ⟨rfl, ?_⟩) ?_ ?_
             rotate_left 2
             · rintro w' ⟨s0, s1, s2⟩
               go_simp
               with_reducible rfl
             · simp only [Act.put, List.setIfInBounds_toArray, List.set_cons_zero, List.set_cons_succ]
               rfl))
        refine plan_call rfl rfl Tryd.func8 (by kernel_rfl) rfl [.agg #[.int .i64 np, .slice AE n2 cE, .slice AI m1 cI]] (by rfl) rfl (by rfl) ?_
        refine (to_calls np AE AI n2 m1 cE cI es ins1 w6 HLR.out HLI.out (Kd.C_below HE1.out HB6.out) x1 (Kd.C_below HI0.out HB6.out) q2 x2 x3).mono ?_
        rintro e w7 ⟨B3, B4, d3, d4, rfl, hc1, hd1, hc2, hd2, hb⟩
        have HG7 := Asd.mk (blk_keep hb HG6.out)
        have HB7 := Asd.mk (HB6.out.trans (hb.mono HB6.out.size))
        refine ⟨_, rfl, HS.out _ HG7.out, ?_⟩
        clear hb HB6 HG6
        refine plan_norm (a' := ?_) ?_ ?_
        rotate_left
        · simp only [Act.put, List.setIfInBounds_toArray, List.set_cons_zero, List.set_cons_succ]
          rfl
        refine plan_call rfl rfl Tryd.func13 (by kernel_rfl) rfl [.agg #[.int .i64 np, .slice B3 n2 d3, .slice B4 m1 d4]] (by rfl) rfl (by rfl) ?_
        refine (paths_n np B3 B4 n2 m1 d3 d4 (es.map conv) ins1 w7 (by rw [List.length_map, HLR.out]) HLI.out hc1 hd1 hc2 hd2 HA1.out).mono ?_
        rintro e w8 ⟨v8, rfl, hp8, hb⟩
        have HP8 := Asd.mk hp8
        have HG8 := Asd.mk (blk_keep hb HG7.out)
        have HB8 := Asd.mk (HB7.out.trans (hb.mono HB7.out.size))
        refine ⟨_, rfl, HS.out _ HG8.out, ?_⟩
        clear hb HB7 HG7 hc1 hd1 hc2 hd2 hp8
        refine plan_norm (a' := ?_) ?_ ?_
        rotate_left
        · simp only [Act.put, List.setIfInBounds_toArray, List.set_cons_zero, List.set_cons_succ]
          rfl
        refine plan_call rfl rfl Tryd.func14 (by kernel_rfl) rfl [.agg #[.int .i64 np, .slice AE n2 cE, .slice AI m1 cI]] (by rfl) rfl (by rfl) ?_
        refine (rpaths_n np AE AI n2 m1 cE cI es ins1 w8 HLR.out HLI.out (Kd.C_below HE1.out HB8.out) x1 (Kd.C_below HI0.out HB8.out) q2 HA1.out HF1.out).mono ?_
        rintro e w9 ⟨v9, rfl, hp9, hb⟩
        have hm8 := HP8.out
        unfold PathsO at hm8 hp9
        rw [if_pos HO.out.symm, Int.toNat_natCast] at hm8 hp9
        obtain ⟨r8, hm8⟩ := hm8
        obtain ⟨r9, hm9⟩ := hp9
        have HM8 := Asd.mk (hm8.below hb)
        have HM9 := Asd.mk hm9
        have HG9 := Asd.mk (blk_keep hb HG8.out)
        have HB9 := Asd.mk (HB8.out.trans (hb.mono HB8.out.size))
        refine ⟨_, rfl, HS.out _ HG9.out, ?_⟩
        clear hb HB8 HG8 hm8 hm9 HP8
        refine plan_norm (a' := ?_) ?_ ?_
        rotate_left
        · simp only [Act.put, List.setIfInBounds_toArray, List.set_cons_zero, List.set_cons_succ]
          rfl
        refine plan_call rfl rfl Tryd.func12 (by kernel_rfl) rfl [v8, v9] (by rfl) rfl (by rfl) ?_
        refine (rows_l np (by omega) v8 v9 r8 r9 _ (Fw.ways_ok (ways_of HIN.out)) (by omega) _ _ w9 HM8.out HM9.out).mono ?_
        rintro e w10 ⟨rfl, hb⟩
        have HG10 := Asd.mk (blk_keep hb HG9.out)
        have HB10 := Asd.mk (HB9.out.trans (hb.mono HB9.out.size))
        refine ⟨_, rfl, HS.out _ HG10.out, ?_⟩
        clear hb HB9 HG9 HM8 HM9
        refine plan_norm (a' := ?_) ?_ ?_
        rotate_left
        · simp only [Act.put, List.setIfInBounds_toArray, List.set_cons_zero, List.set_cons_succ]
          rfl
        repeat (first
          | (refine plan_pure (v := ?_) (a' := ?_) rfl rfl (Or.inl ⟨rfl, ?_⟩) ?_ ?_
             rotate_left 2
             · intro w'
               go_simp
               with_reducible rfl
             · simp only [Act.put, List.setIfInBounds_toArray, List.set_cons_zero, List.set_cons_succ]
               rfl)
          | (refine plan_load (v := ?_) (a' := ?_) rfl rfl (Or.inl ⟨rfl, ?_⟩) ?_ ?_
             rotate_left 2
             · rintro w' ⟨s0, s1, s2⟩
               go_simp
               with_reducible rfl
             · simp only [Act.put, List.setIfInBounds_toArray, List.set_cons_zero, List.set_cons_succ]
               rfl))
        refine plan_nil ?_
        go_wp2
        go_ret
        exact ⟨rfl, HB10.out⟩
      | some q =>
        obtain ⟨k, l⟩ := q
        have hv3 : ErrAt w4 k l v3 := HV4.out
        obtain ⟨ok1, ok2, ok3, ok4⟩ := HOK.out
        obtain ⟨ti, ui, rfl⟩ := hv3.iface
        have HV := Asd.mk hv3
        have HPL : Asd (PlR w4 l v4) := HP4
        have HO4 := Asd.mk ok4
        have hl2 : l.length < 1000 := by omega
        have hk : codeOf (some (k, l)) = k := rfl
        rw [hk]
        clear hk hv3 HV4 HP4 HOK ok4 ok3
        have hkz : (k == 0) = false := by rw [beq_eq_false_iff_ne]; omega
        have hkn : (k != 0) = true := by rw [bne_iff_ne]; omega
        go_wp2_with fail
        refine region_plan (fun w' => w'.cell? ⟨w.heap.size, 0, none⟩ = some (.int .i64 P) ∧ w'.cell? ⟨w.heap.size, 1, none⟩ = some (.slice AE n2 cE) ∧ w'.cell? ⟨w.heap.size, 2, none⟩ = some (.slice AI m1 cI)) []
          [(0, 2), (1, 0), (2, 0), (3, 0), (5, 0), (4, 2), (6, 0), (7, 0), (8, 0), (9, 1), (12, 1), (10, 2), (11, 2), (13, 2), (14, 2), (15, 0), (16, 0)]
          (by kernel_rfl) (by kernel_rfl) (by intro _ _ d _ _ h; cases d <;> exact h) (HS.out _ HG4.out) ?_
        refine plan_call rfl rfl Tryd.func10 (by kernel_rfl) rfl [] (by rfl) rfl (by rfl) ?_
        have HB5 := Asd.mk (below_drew HB4.out)
        have HL5 : Asd (Laid w4.drew) := ⟨Laid.below HL4.out (below_drew (Below.refl _ _))⟩
        have HG5 : Asd (w4.drew.heap[w.heap.size]? = some (.cells #[.int .i64 P, .slice AE n2 cE, .slice AI m1 cI] 25 (0, 0))) := ⟨HG4.out⟩
        have HV5 : Asd (ErrAt w4.drew k l (.iface ti ui)) := ⟨HV.out.below (below_drew (Below.refl _ _))⟩
        have HQ5 : Asd (PlR w4.drew l v4) := ⟨HPL.out.below (below_drew (Below.refl _ _))⟩
        clear HB4 HL4 HG4 HV HPL
        generalize w4.drew = w5 at *
        refine (told_calls _ HL5.out).mono ?_
        rintro e w6 ⟨rfl, hb⟩
        have HG6 := Asd.mk (blk_keep hb HG5.out)
        have HV6 := Asd.mk (HV5.out.below hb)
        have HQ6 := Asd.mk (HQ5.out.below hb)
        have HL6 := Asd.mk (Laid.below HL5.out hb)
        have HB6 := Asd.mk (HB5.out.trans (hb.mono HB5.out.size))
        refine ⟨_, rfl, HS.out _ HG6.out, ?_⟩
        clear hb HB5 HL5 HG5 HV5 HQ5
        refine plan_norm (a' := ?_) ?_ ?_
        rotate_left
        · simp only [Act.put, List.setIfInBounds_toArray, List.set_cons_zero, List.set_cons_succ]
          rfl
        repeat (first
          | (refine plan_pure (v := ?_) (a' := ?_) rfl rfl (Or.inl ⟨rfl, ?_⟩) ?_ ?_
             rotate_left 2
             · intro w'
               go_simp
               with_reducible rfl
             · simp only [Act.put, List.setIfInBounds_toArray, List.set_cons_zero, List.set_cons_succ]
               rfl)
          | (refine plan_load (v := ?_) (a' := ?_) rfl rfl (Or.inl ⟨rfl, ?_⟩) ?_ ?_
             rotate_left 2
             · rintro w' ⟨s0, s1, s2⟩
               go_simp
               with_reducible rfl
             · simp only [Act.put, List.setIfInBounds_toArray, List.set_cons_zero, List.set_cons_succ]
               rfl))
        refine plan_call rfl rfl Tryd.func11 (by kernel_rfl) rfl [.iface ti ui] (by rfl) rfl (by rfl) ?_
        refine (kind_calls k l _ _ HL6.out.1 HV6.out).mono ?_
        rintro e w7 ⟨rfl, hb⟩
        have HG7 := Asd.mk (blk_keep hb HG6.out)
        have HV7 := Asd.mk (HV6.out.below hb)
        have HQ7 := Asd.mk (HQ6.out.below hb)
        have HL7 := Asd.mk (Laid.below HL6.out hb)
        have HB7 := Asd.mk (HB6.out.trans (hb.mono HB6.out.size))
        refine ⟨_, rfl, HS.out _ HG7.out, ?_⟩
        clear hb HB6 HL6 HG6 HV6 HQ6
        refine plan_norm (a' := ?_) ?_ ?_
        rotate_left
        · simp only [Act.put, List.setIfInBounds_toArray, List.set_cons_zero, List.set_cons_succ]
          rfl
        repeat (first
          | (refine plan_pure (v := ?_) (a' := ?_) rfl rfl (Or.inl ⟨rfl, ?_⟩) ?_ ?_
             rotate_left 2
             · intro w'
               go_simp
               with_reducible rfl
             · simp only [Act.put, List.setIfInBounds_toArray, List.set_cons_zero, List.set_cons_succ]
               rfl)
          | (refine plan_load (v := ?_) (a' := ?_) rfl rfl (Or.inl ⟨rfl, ?_⟩) ?_ ?_
             rotate_left 2
             · rintro w' ⟨s0, s1, s2⟩
               go_simp
               with_reducible rfl
             · simp only [Act.put, List.setIfInBounds_toArray, List.set_cons_zero, List.set_cons_succ]
               rfl))
        refine plan_call rfl rfl Tryd.func8 (by kernel_rfl) rfl [.agg #[.int .i64 P, .slice AE n2 cE, .slice AI m1 cI]] (by rfl) rfl (by rfl) ?_
        refine (to_calls P AE AI n2 m1 cE cI es ins1 w7 HLR.out HLI.out (Kd.C_below HE1.out HB7.out) x1 (Kd.C_below HI0.out HB7.out) q2 x2 x3).mono ?_
        rintro e w8 ⟨B3, B4, d3, d4, rfl, hc1, hd1, hc2, hd2, hb⟩
        have HG8 := Asd.mk (blk_keep hb HG7.out)
        have HV8 := Asd.mk (HV7.out.below hb)
        have HQ8 := Asd.mk (HQ7.out.below hb)
        have HL8 := Asd.mk (Laid.below HL7.out hb)
        have HB8 := Asd.mk (HB7.out.trans (hb.mono HB7.out.size))
        refine ⟨_, rfl, HS.out _ HG8.out, ?_⟩
        clear hb HB7 HL7 HG7 HV7 HQ7
        refine plan_norm (a' := ?_) ?_ ?_
        rotate_left
        · simp only [Act.put, List.setIfInBounds_toArray, List.set_cons_zero, List.set_cons_succ]
          rfl
        refine plan_call rfl rfl Tryd.func13 (by kernel_rfl) rfl [.agg #[.int .i64 P, .slice B3 n2 d3, .slice B4 m1 d4]] (by rfl) rfl (by rfl) ?_
        refine (paths_n P B3 B4 n2 m1 d3 d4 (es.map conv) ins1 w8 (by rw [List.length_map, HLR.out]) HLI.out hc1 hd1 hc2 hd2 HA1.out).mono ?_
        rintro e w9 ⟨v8, rfl, hp8, hb⟩
        unfold PathsO at hp8
        rw [if_neg (by rw [← HO.out]; simp)] at hp8
        subst hp8
        have HG9 := Asd.mk (blk_keep hb HG8.out)
        have HV9 := Asd.mk (HV8.out.below hb)
        have HQ9 := Asd.mk (HQ8.out.below hb)
        have HL9 := Asd.mk (Laid.below HL8.out hb)
        have HB9 := Asd.mk (HB8.out.trans (hb.mono HB8.out.size))
        refine ⟨_, rfl, HS.out _ HG9.out, ?_⟩
        clear hb HB8 HG8 hc1 hd1 hc2 hd2 HV8 HQ8 HL8
        refine plan_norm (a' := ?_) ?_ ?_
        rotate_left
        · simp only [Act.put, List.setIfInBounds_toArray, List.set_cons_zero, List.set_cons_succ]
          rfl
        refine plan_call rfl rfl Tryd.func14 (by kernel_rfl) rfl [.agg #[.int .i64 P, .slice AE n2 cE, .slice AI m1 cI]] (by rfl) rfl (by rfl) ?_
        refine (rpaths_n P AE AI n2 m1 cE cI es ins1 w9 HLR.out HLI.out (Kd.C_below HE1.out HB9.out) x1 (Kd.C_below HI0.out HB9.out) q2 HA1.out HF1.out).mono ?_
        rintro e w10 ⟨v9, rfl, hp9, hb⟩
        unfold PathsO at hp9
        rw [if_neg (by rw [← HO.out]; simp)] at hp9
        subst hp9
        have HG10 := Asd.mk (blk_keep hb HG9.out)
        have HV10 := Asd.mk (HV9.out.below hb)
        have HQ10 := Asd.mk (HQ9.out.below hb)
        have HL10 := Asd.mk (Laid.below HL9.out hb)
        have HB10 := Asd.mk (HB9.out.trans (hb.mono HB9.out.size))
        refine ⟨_, rfl, HS.out _ HG10.out, ?_⟩
        clear hb HB9 HG9 HV9 HQ9 HL9
        refine plan_norm (a' := ?_) ?_ ?_
        rotate_left
        · simp only [Act.put, List.setIfInBounds_toArray, List.set_cons_zero, List.set_cons_succ]
          rfl
        refine plan_call rfl rfl Tryd.func12 (by kernel_rfl) rfl [.slice none 0 0, .slice none 0 0] (by rfl) rfl (by rfl) ?_
        refine (rows_nil w10).mono ?_
        rintro e w11 ⟨rfl, hb⟩
        have HG11 := Asd.mk (blk_keep hb HG10.out)
        have HV11 := Asd.mk (HV10.out.below hb)
        have HQ11 := Asd.mk (HQ10.out.below hb)
        have HL11 := Asd.mk (Laid.below HL10.out hb)
        have HB11 := Asd.mk (HB10.out.trans (hb.mono HB10.out.size))
        refine ⟨_, rfl, HS.out _ HG11.out, ?_⟩
        clear hb HB10 HG10 HV10 HQ10 HL10
        refine plan_norm (a' := ?_) ?_ ?_
        rotate_left
        · simp only [Act.put, List.setIfInBounds_toArray, List.set_cons_zero, List.set_cons_succ]
          rfl
        repeat (first
          | (refine plan_pure (v := ?_) (a' := ?_) rfl rfl (Or.inl ⟨rfl, ?_⟩) ?_ ?_
             rotate_left 2
             · intro w'
               go_simp
               with_reducible rfl
             · simp only [Act.put, List.setIfInBounds_toArray, List.set_cons_zero, List.set_cons_succ]
               rfl)
          | (refine plan_load (v := ?_) (a' := ?_) rfl rfl (Or.inl ⟨rfl, ?_⟩) ?_ ?_
             rotate_left 2
             · rintro w' ⟨s0, s1, s2⟩
               go_simp
               with_reducible rfl
             · simp only [Act.put, List.setIfInBounds_toArray, List.set_cons_zero, List.set_cons_succ]
               rfl))
        refine plan_nil ?_
        go_wp2_with fail
        have T1 := text_calls k l _ w11 HL11.out HV11.out hl2 (by omega) ok2 HO4.out
        refine T1.mono ?_
        clear T1
        rintro e w12 ⟨rfl, hb⟩
        have HQ12 := Asd.mk (HQ11.out.below hb)
        have HB12 := Asd.mk (HB11.out.trans (hb.mono HB11.out.size))
        clear hb HB11 HQ11
        go_wp2_with fail
        have T1 := rtext_calls k l v4 w12 HQ12.out hl2 (by omega) ok2 HO4.out
        refine T1.mono ?_
        clear T1
        rintro e w13 ⟨rfl, hb⟩
        have HB13 := Asd.mk (HB12.out.trans (hb.mono HB12.out.size))
        clear hb HB12 HQ12
        generalize placesB l ++ wordOf k = tx at *
        go_wp2
        go_ret
        exact ⟨rfl, HB13.out⟩
end Go.Proofs.YtcgjdljhpcjmeaaDoor
