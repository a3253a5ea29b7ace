import Derived.Test.YtcgjdljhpcjmeaaDoorB8
import Derived.Test.YtcgjdljhpcjmeaaDoorG1
namespace Go.Proofs.YtcgjdljhpcjmeaaDoor
open Go.RowKit PGraphChecks
/-- The edges of the way round, laid so far. -/
def round1 (k j : Nat) : S49 := ⟨1 + j, 1 + ((j + 1) % k : Nat), 0⟩
def roundE (k i : Nat) : List S49 := (List.range i).map (round1 k)
def round2 (k a : Nat) : List S49 := (roundE k k).set a ⟨(round1 k a).f0, (round1 k a).f1, 1⟩
def conv (e : S49) : S78 := ⟨e.f0, e.f1, e.f2⟩

theorem ways_of {P : Nat} {l : List S78} (h : EIn P l) : ∀ e ∈ esOf l, Fw.EOk P e := by
  intro e he
  obtain ⟨y, hy, rfl⟩ := List.mem_map.1 he
  have := h y hy
  refine ⟨?_, ?_, this.2.2.2.2.1, this.2.2.2.2.2⟩ <;> simp only <;> omega
/-- A graph whose first input is the port 0 and whose edges lie in it: only a way round is left to find. -/
theorem checkE_of {P : Nat} {l : List S78} (h1 : 1 ≤ P) (h2 : P ≤ 64) (h3 : l.length ≤ 256) (h : EIn P l) : checkE P l [0] = checkC P l := by
  unfold checkE
  rw [if_neg (by omega), if_neg (by omega)]
  unfold checkT
  have hb : ∀ p : Int, 0 ≤ p → p < P → hasB P p = true := fun p a b => by simp [hasB, a, b]
  have he : ∀ (l : List S78) (i : Nat), EIn P l → edgesE P l i = none := fun l => by
    induction l with
    | nil => intro i _; rfl
    | cons x r ih =>
      intro i hx
      have hx0 := hx x (by simp)
      rw [edgesE_cons, hb _ hx0.1 hx0.2.1, if_neg (by simp), hb _ hx0.2.2.1 hx0.2.2.2.1, if_neg (by simp)]
      exact ih _ (fun y hy => hx y (by simp [hy]))
  rw [he l 0 h]
  unfold checkI inputsE
  rw [if_neg (by simp), inputsL_cons, hb 0 (by omega) (by omega), if_neg (by simp), if_neg (by simp)]
  rfl

theorem round1_in {k j : Nat} (hj : j < k) (x : Int) (h0 : 0 ≤ x) (h1 : x ≤ 1) : EIn (k + 2) [⟨(round1 k j).f0, (round1 k j).f1, x⟩] := by
  intro e he
  obtain rfl := List.mem_singleton.1 he
  have := Nat.mod_lt (j + 1) (show k > 0 by omega)
  simp only [round1, Fw.never]
  omega
theorem round_in (k : Nat) : EIn (k + 2) ((roundE k k).map conv) := by
  intro e he
  obtain ⟨y, hy, rfl⟩ := List.mem_map.1 he
  obtain ⟨j, hj, rfl⟩ := List.mem_map.1 hy
  exact round1_in (List.mem_range.1 hj) 0 (by omega) (by omega) _ (List.mem_singleton.2 rfl)
theorem round2_in (k a : Nat) (ha : a < k) : EIn (k + 2) ((round2 k a).map conv) := by
  intro e he
  obtain ⟨y, hy, rfl⟩ := List.mem_map.1 he
  rcases List.mem_or_eq_of_mem_set hy with hy | rfl
  · exact round_in k _ (List.mem_map.2 ⟨y, hy, rfl⟩)
  · exact round1_in ha 1 (by omega) (by omega) _ (List.mem_singleton.2 rfl)

theorem cyc_keep (M : List (List Int)) : ∀ (l : List S78) (p : Int), 0 ≤ p → (∀ e ∈ l, p ≤ e.f0) → l.foldl (cyc1 M) p = p
  | [], _, _, _ => rfl
  | e :: r, p, h0, h => by
    have := h e (by simp)
    rw [List.foldl_cons]
    have e1 : cyc1 M p e = p := by unfold cyc1; rw [if_neg (by omega)]
    rw [e1]
    exact cyc_keep M r p h0 (fun y hy => h y (by simp [hy]))
theorem cyc_none (M : List (List Int)) : ∀ (l : List S78), (∀ e ∈ l, e.f2 = 0 → Fw.getM M e.f1.toNat e.f0.toNat ≠ 0) → l.foldl (cyc1 M) (-1) = -1
  | [], _ => rfl
  | e :: r, h => by
    have h0 := h e (by simp)
    rw [List.foldl_cons]
    have e1 : cyc1 M (-1) e = -1 := by unfold cyc1; rw [if_neg (fun q => h0 q.1 q.2.1)]
    rw [e1]
    exact cyc_none M r (fun y hy => h y (by simp [hy]))

theorem round_cycle (k : Nat) (h : k < 10) (h1 : 1 ≤ k) : checkE ((k : Int) + 2) ((roundE k k).map conv) [0] = some (3, [(bPort, 1)]) := by
  have hin := round_in k
  have e0 : ((k : Int) + 2) = ((k + 2 : Nat) : Int) := by omega
  rw [e0, checkE_of (by omega) (by omega) (by simp [roundE]; omega) hin]
  unfold checkC
  rw [Int.toNat_natCast]
  have hw := ways_of hin
  have T := Fw.ways_tri hw
  have I := Fw.ways_in hw
  have hok := Fw.ways_ok hw
  have hedge : ∀ j, j < k → Fw.getM (Fw.ways (k + 2) (esOf ((roundE k k).map conv))) (1 + j) (1 + (j + 1) % k) ≤ 0 := fun j hj =>
    I (1 + j, 1 + (j + 1) % k, 0) (List.mem_map.2 ⟨conv (round1 k j), List.mem_map.2 ⟨round1 k j, List.mem_map.2 ⟨j, List.mem_range.2 hj, rfl⟩, rfl⟩, by
      simp only [conv, round1, Prod.mk.injEq, and_true]
      omega⟩)
  have hcyc : cycleF (Fw.ways (k + 2) (esOf ((roundE k k).map conv))) ((roundE k k).map conv) = 1 := by
    generalize Fw.ways (k + 2) (esOf ((roundE k k).map conv)) = M at *
    have hstep : ∀ d, 1 + d < k → Fw.getM M (1 + 1 % k) (1 + (1 + d)) = 0 := fun d => by
      induction d with
      | zero => intro hd; rw [Nat.mod_eq_of_lt (by omega)]; exact T.diag _ (by omega)
      | succ d ih =>
        intro hd
        have i1 := ih (by omega)
        have i2 := hedge (1 + d) (by omega)
        have e2 : (1 + d + 1) % k = 1 + (d + 1) := by rw [Nat.mod_eq_of_lt (by omega)]; omega
        rw [e2] at i2
        have hm : 1 % k < k := Nat.mod_lt _ (by omega)
        have t := T.tri (1 + (1 + d)) (1 + 1 % k) (1 + (1 + (d + 1))) (by omega) (by omega) (by omega)
        have g1 := (hok.get (i := 1 + 1 % k) (j := 1 + (1 + (d + 1))) (by omega) (by omega)).1
        rw [i1, Fw.plusP_eq] at t
        omega
    have hback : Fw.getM M (1 + 1 % k) 1 = 0 := by
      by_cases hk : k = 1
      · subst hk; exact T.diag 1 (by omega)
      · have i1 := hstep (k - 2) (by omega)
        have i2 := hedge (k - 1) (by omega)
        have e1 : 1 + (1 + (k - 2)) = k := by omega
        have e2 : 1 + (k - 1) = k := by omega
        have e3 : 1 + (k - 1 + 1) % k = 1 := by rw [show k - 1 + 1 = k by omega, Nat.mod_self]
        rw [e1] at i1
        rw [e2, e3] at i2
        have hm : 1 % k < k := Nat.mod_lt _ (by omega)
        have t := T.tri k (1 + 1 % k) 1 (by omega) (by omega) (by omega)
        have g1 := (hok.get (i := 1 + 1 % k) (j := 1) (by omega) (by omega)).1
        rw [i1, Fw.plusP_eq] at t
        omega
    obtain ⟨q, rfl⟩ : ∃ q, k = q + 1 := ⟨k - 1, by omega⟩
    have el : (roundE (q + 1) (q + 1)).map conv = conv (round1 (q + 1) 0) :: ((List.range q).map (fun j => conv (round1 (q + 1) (j + 1)))) := by
      simp [roundE, List.range_succ_eq_map]
    rw [el]
    unfold cycleF
    rw [List.foldl_cons]
    have e1 : cyc1 M (-1) (conv (round1 (q + 1) 0)) = 1 := by
      have e5 : (conv (round1 (q + 1) 0)).f1.toNat = 1 + 1 % (q + 1) := by simp only [conv, round1, Nat.zero_add]; omega
      have e6 : (conv (round1 (q + 1) 0)).f0.toNat = 1 := by simp [conv, round1]
      have e7 : Fw.getM M (conv (round1 (q + 1) 0)).f1.toNat (conv (round1 (q + 1) 0)).f0.toNat = 0 := by rw [e5, e6]; exact hback
      have e8 : (conv (round1 (q + 1) 0)).f2 = 0 := rfl
      have e9 : (conv (round1 (q + 1) 0)).f0 = 1 := rfl
      unfold cyc1
      rw [if_pos ⟨e8, e7, Or.inl (by omega)⟩, e9]
    rw [e1]
    refine cyc_keep M _ 1 (by omega) fun e he => ?_
    obtain ⟨j, _, rfl⟩ := List.mem_map.1 he
    simp only [conv, round1]
    omega
  rw [hcyc, if_pos (by omega)]

/-- How far a port stands behind the slow edge. -/
def rank (k a v : Nat) : Nat := (v + (k + k) - (a + 2)) % k
theorem rank_round : ∀ k, k < 10 → ∀ a, a < k → ∀ j, j < k → j ≠ a → rank k a (1 + j) < rank k a (1 + (j + 1) % k) := by decide +kernel

theorem round2_mem {k a : Nat} {e : S49} (ha : a < k) (h : e ∈ round2 k a) : (∃ j, j < k ∧ j ≠ a ∧ e = round1 k j) ∨ e = ⟨(round1 k a).f0, (round1 k a).f1, 1⟩ := by
  obtain ⟨i, hi, rfl⟩ := List.getElem_of_mem h
  unfold round2 at hi ⊢
  rw [List.getElem_set]
  split
  · exact .inr rfl
  · rename_i hne
    have hi2 : i < k := by simpa [roundE] using hi
    exact .inl ⟨i, hi2, fun e => hne e.symm, by simp [roundE]⟩

theorem round_none (k : Nat) (h : k < 10) (a : Nat) (ha : a < k) : checkE ((k : Int) + 2) ((round2 k a).map conv) [0] = none := by
  have hin := round2_in k a ha
  have e0 : ((k : Int) + 2) = ((k + 2 : Nat) : Int) := by omega
  rw [e0, checkE_of (by omega) (by omega) (by simp [round2, roundE]; omega) hin]
  unfold checkC
  rw [Int.toNat_natCast]
  have hw := ways_of hin
  have U := Fw.ways_up hw (rank k a) (by
    intro e he hr
    obtain ⟨y, hy, rfl⟩ := List.mem_map.1 he
    obtain ⟨z, hz, rfl⟩ := List.mem_map.1 hy
    rcases round2_mem ha hz with ⟨j, hj, hne, rfl⟩ | rfl
    · have := rank_round k h a ha j hj hne
      have e5 : (conv (round1 k j)).f1.toNat = 1 + (j + 1) % k := by simp only [conv, round1]; omega
      have e6 : (conv (round1 k j)).f0.toNat = 1 + j := by simp only [conv, round1]; omega
      simp only [e5, e6] at hr
      omega
    · exact Int.le_refl _)
  have hcyc : cycleF (Fw.ways (k + 2) (esOf ((round2 k a).map conv))) ((round2 k a).map conv) = -1 := by
    refine cyc_none _ _ fun e he h2 => ?_
    obtain ⟨z, hz, rfl⟩ := List.mem_map.1 he
    rcases round2_mem ha hz with ⟨j, hj, hne, rfl⟩ | rfl
    · have hr := rank_round k h a ha j hj hne
      have e5 : (conv (round1 k j)).f1.toNat = 1 + (j + 1) % k := by simp only [conv, round1]; omega
      have e6 : (conv (round1 k j)).f0.toNat = 1 + j := by simp only [conv, round1]; omega
      have hm : (j + 1) % k < k := Nat.mod_lt _ (by omega)
      have := U (1 + (j + 1) % k) (1 + j) (by omega) (by omega) hr
      rw [e5, e6]
      omega
    · cases h2
  rw [hcyc, if_neg (by omega)]
theorem round_text : placesB [(bPort, 1)] ++ wordOf 3 = ⟨#[112, 111, 114, 116, 32, 49, 58, 32, 99, 121, 99, 108, 101]⟩ := by decide +kernel
end Go.Proofs.YtcgjdljhpcjmeaaDoor
