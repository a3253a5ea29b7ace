import Derived.Test.YtcgjdljhpcjmeaaDoorA5
import Derived.Test.YtcgjdljhpcjmeaaDoorPGraphChecksx1
import Derived.Laws.CopyOwn
import Derived.Lib.SlBuf
import Derived.IntWalk
namespace Go.Proofs.YtcgjdljhpcjmeaaDoor
open Go.RowKit Go.Proofs.YtcgjdljhpcjmeaaDoorW.PrintWords Go.Proofs.YtcgjdljhpcjmeaaDoorW.PrintMore

theorem mul1_calls (n : Nat) (hn : n ≤ 65536) (w : World) :
    Calls Tryd.prog 78 #[.int .u64 1, .int .u64 n] w fun e w' => e = .returned (.tuple #[.int .u64 0, .int .u64 n]) ∧ w = w' := by
  refine (Tryd.bits_Mul 1 n (by omega) (by omega) w).mono fun e w' h => ?_
  have e1 : 1 * n / 18446744073709551616 = 0 := by omega
  have e2 : 1 * n % 18446744073709551616 = n := by omega
  rw [e1, e2] at h
  exact ⟨h.1, h.2.symm⟩

set_option maxHeartbeats 1000000 in
set_option maxRecDepth 100000 in
theorem repeat_calls (v : Int) (bx : Nat) (n : Nat) (h1 : 1 ≤ n) (h2 : n ≤ 65536) (w : World) (hx : w.cell? ⟨bx, 0, none⟩ = some (.int .u64 v)) :
    Calls Tryd.prog 59 #[.slice (some ⟨bx, 0, none⟩) 1 1, .int .i64 n] w fun e w' => ∃ b, e = .returned (.slice (some ⟨b, 0, none⟩) n n) ∧ w'.heap[b]? = some (.cells (List.replicate n (Value.int .u64 v)).toArray 47 (0, 0)) ∧ w.heap.size ≤ b ∧ Below w.heap.size w w' := by
  have HX := Asd.mk hx
  clear hx
  have hmk := print_make 70 47 .u64 8 Tryd.underlying70 PGraphChecks.info47 (by omega) n (by omega)
  have hlen : (madeCells #[Value.int .u64 0] n).size = n := by simp [size_madeCells]
  have hcp := run_copy_row (P := Tryd.prog) (w.alloc (.cells (madeCells #[.int .u64 0] n) 47)) 70 70 3 47 w.heap.size 0 n n ⟨bx, 0, none⟩ 1 1 (madeCells #[.int .u64 0] n) 47 [.int .u64 v]
    Tryd.underlying70 (by kernel_rfl) (heap_alloc_new w _) (Nat.min_eq_left h1).symm (fun j u hu => by
      have hj : j = 0 := by have := (List.getElem?_eq_some_iff.1 hu).1; simp at this; omega
      subst hj
      simp at hu
      subst hu
      exact cell_keep (below_al (Below.refl _ _) _) HX.out) (by simp; omega) (fun u hu => by simp at hu; subst hu; rfl)
  generalize hW2 : (w.alloc (.cells (madeCells #[.int .u64 0] n) 47)).setRow w.heap.size _ = W2 at hcp
  have HW2 : Asd (Below w.heap.size w W2 ∧ ∃ cur : List Value, W2.heap[w.heap.size]? = some (.cells cur.toArray 47 (0, 0)) ∧ cur.length = n ∧ ∀ j, j < 1 → cur[j]? = some (.int .u64 v)) := by
    constructor
    subst hW2
    refine ⟨below_setRow (below_al (Below.refl _ _) _) (Nat.le_refl _) _, _, setRow_heap _ _ _ _ 47 _ (heap_alloc_new w _), ?_, ?_⟩
    · simp [hlen]; omega
    · intro j hj
      obtain rfl : j = 0 := by omega
      simp
  clear hW2 hlen
  go_enter Tryd.func59, Tryd.ntmps59
  go_wp2_with fail
  refine (mul1_calls n h2 _).mono ?_
  rintro e w' ⟨rfl, rfl⟩
  go_wp2_with fail
  go_loopw [8] (fun v8 w' => ∃ k : Nat, 1 ≤ k ∧ k ≤ n ∧ v8 = .int .i64 k ∧ Asd (Below w.heap.size w w' ∧ ∃ cur : List Value, w'.heap[w.heap.size]? = some (.cells cur.toArray 47 (0, 0)) ∧ cur.length = n ∧ ∀ j, j < k → cur[j]? = some (.int .u64 v))) (fun v8 _ => n - (intOf v8).toNat)
  case atStart => exact ⟨1, Nat.le_refl _, h1, rfl, HW2⟩
  case round =>
    obtain ⟨k, hk1, hk2, rfl, HR⟩ := hrel
    by_cases hlt : k < n
    · obtain ⟨hB, cur, hc, hcl, hcv⟩ := HR.out
      go_wp2_with fail
      have i1 : (0 : Int) ≤ (k : Int) := by omega
      have i2 : (k : Int) ≤ (n : Int) := by omega
      have i3 : ¬ n = k := by omega
      have HB := Asd.mk hB
      have HC := Asd.mk hc
      have HV := Asd.mk hcv
      have HCL := Asd.mk hcl
      have hm1 : Nat.min k (n - k) ≤ k := Nat.min_le_left _ _
      have hm2 : Nat.min k (n - k) ≤ n - k := Nat.min_le_right _ _
      have hm3 : 1 ≤ Nat.min k (n - k) := Nat.le_min.2 ⟨hk1, by omega⟩
      have hfit2 : Asd (k + (List.replicate (Nat.min k (n - k)) (Value.int .u64 v)).length ≤ cur.length) := ⟨by rw [List.length_replicate, hcl]; omega⟩
      have hpos2 : Asd (0 < (List.replicate (Nat.min k (n - k)) (Value.int .u64 v)).length → (some (⟨w.heap.size, k, none⟩ : Addr)) = some ⟨w.heap.size, k, none⟩ ∧ ∃ ad, (some (⟨w.heap.size, 0, none⟩ : Addr)) = some ad ∧ ∀ j u, (List.replicate (Nat.min k (n - k)) (Value.int .u64 v))[j]? = some u → wr.drew.cell? (ad.add j) = some u) := by
        constructor
        intro _
        refine ⟨rfl, _, rfl, fun j u hu => ?_⟩
        have hj : j < Nat.min k (n - k) := by have := (List.getElem?_eq_some_iff.1 hu).1; simpa using this
        rw [List.getElem?_replicate, if_pos hj] at hu
        cases hu
        have h3 := hcv j (by omega)
        have hcd : wr.drew.heap[w.heap.size]? = some (.cells cur.toArray 47 (0, 0)) := hc
        simp [World.cell?, add_plain, hcd, h3]
      have hsum : IntKind.i64.wrap ((k : Int) + (Nat.min k (n - k) : Nat)) = ((k + Nat.min k (n - k) : Nat) : Int) := by
        rw [IntWalk.i64_in _ (by omega)]; omega
      clear hB hc hcv hcl HR
      go_region_held3 (fun _ => True) (trivial) ((refine step_copy_splice rfl (.tmp 41) (.tmp 44) 70 70 rfl 47 Tryd.underlying70 (by kernel_rfl) (some ⟨w.heap.size, k, none⟩) (some ⟨w.heap.size, 0, none⟩) (n - k) (n - k) k n rfl rfl w.heap.size k cur 47 HC.out (List.replicate (Nat.min k (n - k)) (.int .u64 v)) ?c1 ?c2 ?c3 ?c4 w.heap.size w (below_drew HB.out) (Nat.le_refl _) ?_; (case c1 => simp); (case c2 => exact hpos2.out); (case c3 => exact hfit2.out); (case c4 => exact (fun u hu => by obtain ⟨_, rfl⟩ := List.mem_replicate.1 hu; rfl)); intro w4 hg4 hb4))
      have HB4 := Asd.mk hb4
      have HG4 := Asd.mk hg4.out
      clear hb4 hg4
      go_wp2
      go_roundw
      case measure => simp [intOf]; omega
      case rel =>
        refine ⟨k + Nat.min k (n - k), by omega, by omega, by go_num, ⟨HB4.out, _, HG4.out, ?_, fun j hj => ?_⟩⟩
        · simp [splice, HCL.out]; omega
        · unfold splice
          have hl : (cur.take k).length = k := by rw [List.length_take, HCL.out]; omega
          by_cases hjk : j < k
          · rw [List.getElem?_append_left (by rw [hl]; exact hjk), List.getElem?_take, if_pos hjk]
            exact HV.out j hjk
          · rw [List.getElem?_append_right (by rw [hl]; omega), hl, List.getElem?_append_left (by rw [List.length_replicate]; omega), List.getElem?_replicate, if_pos (by omega)]
    · obtain rfl : k = n := by omega
      go_wp2
      go_ret
      obtain ⟨hB, cur, hc, hcl, hcv⟩ := HR.out
      refine ⟨_, rfl, ?_, Nat.le_refl _, hB⟩
      rw [hc]
      have : cur = List.replicate k (Value.int .u64 v) := by
        apply List.ext_getElem?
        intro j
        by_cases hj : j < k
        · rw [hcv j hj, List.getElem?_replicate, if_pos hj]
        · rw [List.getElem?_eq_none (by omega), List.getElem?_eq_none (by simp; omega)]
      rw [this]
end Go.Proofs.YtcgjdljhpcjmeaaDoor
