import Derived.Test.YtcgjdljhpcjmeaaDoorG0
/- What the graph's ways are: closed under the triangle, and no shorter than a rank allows. -/
namespace Go.Proofs.YtcgjdljhpcjmeaaDoor.Fw

theorem plusP_eq (a b : Int) : plusP a b = min (a + b) never := by unfold plusP never; split <;> omega

theorem getM_set {P : Nat} {M : List (List Int)} (h : Ok P M) {i j : Nat} (hi : i < P) (hj : j < P) (x : Int) (a b : Nat) : getM (setM M i j x) a b = if a = i ∧ b = j then x else getM M a b := by
  have hl := h.len
  have hr := h.rowlen hi
  unfold getM setM
  rw [List.getD_eq_getElem?_getD (l := M.set i _), List.getElem?_set]
  by_cases hai : i = a
  · subst hai
    rw [if_pos rfl, if_pos (by omega), Option.getD_some, List.getD_eq_getElem?_getD (l := List.set _ _ _), List.getElem?_set]
    by_cases hbj : j = b
    · subst hbj
      rw [if_pos rfl, if_pos (by omega), if_pos ⟨rfl, rfl⟩]; rfl
    · rw [if_neg hbj, if_neg (fun h => hbj h.2.symm), ← List.getD_eq_getElem?_getD]
  · rw [if_neg hai, if_neg (fun h => hai h.1.symm), ← List.getD_eq_getElem?_getD]

theorem getM_mat0 {P a b : Nat} (ha : a < P) (hb : b < P) : getM (mat0 P P) a b = if a = b then 0 else never := by
  unfold getM mat0 row0
  rw [List.getD_eq_getElem?_getD (l := List.map _ _), List.getElem?_map, List.getElem?_range ha, Option.map_some, Option.getD_some, List.getD_eq_getElem?_getD, List.getElem?_set]
  by_cases hab : a = b
  · subst hab
    rw [if_pos rfl, if_pos (by simpa using ha), if_pos rfl]; rfl
  · rw [if_neg hab, if_neg hab, List.getElem?_replicate, if_pos hb]; rfl

/-- What a relaxing keeps, the ways keep. -/
theorem jl_ind {P : Nat} (Q : List (List Int) → Prop) (hQ : ∀ M k i j, k < P → i < P → j < P → Ok P M → Q M → Q (relax k i M j)) {M : List (List Int)} (h : Ok P M) (q : Q M) {k i : Nat} (hk : k < P) (hi : i < P) : ∀ n, n ≤ P → Q (jl k i n M)
  | 0, _ => q
  | n + 1, hn => by rw [jl_succ]; exact hQ _ _ _ _ hk hi (by omega) (jl_ok h hk hi n (by omega)) (jl_ind Q hQ h q hk hi n (by omega))
theorem il_ind {P : Nat} (Q : List (List Int) → Prop) (hQ : ∀ M k i j, k < P → i < P → j < P → Ok P M → Q M → Q (relax k i M j)) {M : List (List Int)} (h : Ok P M) (q : Q M) {k : Nat} (hk : k < P) : ∀ n, n ≤ P → Q (il P k n M)
  | 0, _ => q
  | n + 1, hn => by rw [il_succ]; exact jl_ind Q hQ (il_ok h hk n (by omega)) (il_ind Q hQ h q hk n (by omega)) hk (by omega) P (Nat.le_refl _)
theorem kl_ind {P : Nat} (Q : List (List Int) → Prop) (hQ : ∀ M k i j, k < P → i < P → j < P → Ok P M → Q M → Q (relax k i M j)) {M : List (List Int)} (h : Ok P M) (q : Q M) : ∀ n, n ≤ P → Q (kl P n M)
  | 0, _ => q
  | n + 1, hn => by rw [kl_succ]; exact il_ind Q hQ (kl_ok h n (by omega)) (kl_ind Q hQ h q n (by omega)) (by omega) P (Nat.le_refl _)

/-- A stage's answer. -/
def stage (M : List (List Int)) (k a b : Nat) : Int := min (getM M a b) (plusP (getM M a k) (getM M k b))

theorem jl_get {P : Nat} {M : List (List Int)} (h : Ok P M) {k i : Nat} (hk : k < P) (hi : i < P) (hkk : getM M k k = 0) : ∀ n, n ≤ P → ∀ a b, a < P → b < P →
    getM (jl k i n M) a b = if a = i ∧ b < n then stage M k a b else getM M a b
  | 0, _, a, b, _, _ => by rw [if_neg (by omega)]; rfl
  | n + 1, hn, a, b, ha, hb => by
    have ih := jl_get h hk hi hkk n (by omega)
    have e1 := ih i n hi (by omega)
    have e2 := ih i k hi hk
    have e3 := ih k n hk (by omega)
    have e4 := ih a b ha hb
    have h1 := h.get hi hk
    rw [if_neg (by omega)] at e1
    rw [if_neg (by omega)] at e3
    have e5 : getM (jl k i n M) i k = getM M i k := by
      rw [e2]
      split
      · unfold stage; rw [hkk, plusP_eq]; omega
      · rfl
    rw [jl_succ, relax, getM_set (jl_ok h hk hi n (by omega)) hi (by omega), e1, e3, e5, e4]
    by_cases hai : a = i
    · subst hai
      by_cases hbn : b = n
      · subst hbn
        rw [if_pos ⟨rfl, rfl⟩, if_pos ⟨rfl, by omega⟩]; rfl
      · rw [if_neg (fun h => hbn h.2)]
        by_cases hlt : b < n
        · rw [if_pos ⟨rfl, hlt⟩, if_pos ⟨rfl, by omega⟩]
        · rw [if_neg (by omega), if_neg (by omega)]
    · rw [if_neg (fun h => hai h.1), if_neg (fun h => hai h.1), if_neg (fun h => hai h.1)]

theorem il_get {P : Nat} {M : List (List Int)} (h : Ok P M) {k : Nat} (hk : k < P) (hkk : getM M k k = 0) : ∀ n, n ≤ P → ∀ a b, a < P → b < P →
    getM (il P k n M) a b = if a < n then stage M k a b else getM M a b
  | 0, _, a, b, _, _ => by rw [if_neg (by omega)]; rfl
  | n + 1, hn, a, b, ha, hb => by
    have ih := il_get h hk hkk n (by omega)
    have e0 : getM (il P k n M) k k = 0 := by
      rw [ih k k hk hk]
      split
      · unfold stage; rw [hkk, plusP_eq]; decide
      · exact hkk
    have h1 := h.get hk hb
    have h2 := h.get hk hk
    rw [il_succ, jl_get (il_ok h hk n (by omega)) hk (by omega) e0 P (Nat.le_refl _) a b ha hb]
    by_cases han : a = n
    · subst han
      rw [if_pos ⟨rfl, hb⟩, if_pos (by omega)]
      unfold stage
      rw [ih a b ha hb, if_neg (by omega), ih a k ha hk, if_neg (by omega), ih k b hk hb]
      have : (if k < a then stage M k k b else getM M k b) = getM M k b := by
        split
        · unfold stage; rw [hkk, plusP_eq]; omega
        · rfl
      rw [this]
    · rw [if_neg (fun h => han h.1), ih a b ha hb]
      by_cases hlt : a < n
      · rw [if_pos hlt, if_pos (by omega)]
      · rw [if_neg hlt, if_neg (by omega)]

theorem il_stage {P : Nat} {M : List (List Int)} (h : Ok P M) {k : Nat} (hk : k < P) (hkk : getM M k k = 0) (a b : Nat) (ha : a < P) (hb : b < P) : getM (il P k P M) a b = stage M k a b := by
  rw [il_get h hk hkk P (Nat.le_refl _) a b ha hb, if_pos ha]

/-- The ports' own ways, and the triangle over the ports that have been. -/
structure Tri (P n : Nat) (M : List (List Int)) : Prop where
  diag : ∀ i, i < P → getM M i i = 0
  tri : ∀ m i j, m < n → i < P → j < P → getM M i j ≤ plusP (getM M i m) (getM M m j)

theorem kl_tri {P : Nat} {M : List (List Int)} (h : Ok P M) (hd : ∀ i, i < P → getM M i i = 0) : ∀ n, n ≤ P → Tri P n (kl P n M)
  | 0, _ => ⟨hd, fun _ _ _ h => by omega⟩
  | n + 1, hn => by
    have ih := kl_tri h hd n (by omega)
    have hok := kl_ok h n (by omega)
    rw [kl_succ]
    generalize kl P n M = N at *
    have hnP : n < P := by omega
    have hs := fun a b ha hb => il_stage hok hnP (ih.diag n hnP) a b ha hb
    refine ⟨fun i hi => ?_, fun m i j hm hi hj => ?_⟩
    · rw [hs i i hi hi]
      unfold stage
      have := hok.get hi hnP
      have := hok.get hnP hi
      rw [ih.diag i hi, plusP_eq]
      unfold never
      omega
    · have hmP : m < P := by omega
      rw [hs i j hi hj, hs i m hi hmP, hs m j hmP hj]
      unfold stage
      have b1 := hok.get hi hj
      have b2 := hok.get hi hnP
      have b3 := hok.get hnP hj
      have b4 := hok.get hi hmP
      have b5 := hok.get hmP hj
      have b6 := hok.get hnP hmP
      have b7 := hok.get hmP hnP
      by_cases hmn : m = n
      · subst hmn
        have d := ih.diag m hmP
        rw [d]
        simp only [plusP_eq] at *
        unfold never at *
        omega
      · have t1 := ih.tri m i j (by omega) hi hj
        have t2 := ih.tri m n j (by omega) hnP hj
        have t3 := ih.tri m i n (by omega) hi hnP
        simp only [plusP_eq] at *
        unfold never at *
        omega

theorem edges_diag {P : Nat} : ∀ (es : List (Nat × Nat × Int)) {M : List (List Int)}, Ok P M → (∀ e ∈ es, EOk P e) → (∀ i, i < P → getM M i i = 0) → ∀ i, i < P → getM (edges es M) i i = 0
  | [], _, _, _, hd => hd
  | e :: es, M, h, he, hd => by
    have h0 := he e (by simp)
    refine edges_diag es (edge1_ok h h0.1 h0.2.1 h0.2.2.1 h0.2.2.2) (fun x hx => he x (by simp [hx])) fun i hi => ?_
    unfold edge1
    split
    · exact hd i hi
    · rw [getM_set h h0.1 h0.2.1, if_neg (by omega)]
      exact hd i hi
theorem edges_le {P : Nat} : ∀ (es : List (Nat × Nat × Int)) {M : List (List Int)}, Ok P M → (∀ e ∈ es, EOk P e) → ∀ a b, getM (edges es M) a b ≤ getM M a b
  | [], _, _, _, _, _ => Int.le_refl _
  | e :: es, M, h, he, a, b => by
    have h0 := he e (by simp)
    refine Int.le_trans (edges_le es (edge1_ok h h0.1 h0.2.1 h0.2.2.1 h0.2.2.2) (fun x hx => he x (by simp [hx])) a b) ?_
    unfold edge1
    split
    · exact Int.le_refl _
    · rw [getM_set h h0.1 h0.2.1]
      split
      · rename_i hab
        rw [hab.1, hab.2]; omega
      · exact Int.le_refl _
theorem edges_in {P : Nat} : ∀ (es : List (Nat × Nat × Int)) {M : List (List Int)}, Ok P M → (∀ e ∈ es, EOk P e) → ∀ e ∈ es, e.1 ≠ e.2.1 → getM (edges es M) e.1 e.2.1 ≤ e.2.2
  | [], _, _, _, e, he, _ => by simp at he
  | x :: es, M, h, he, e, hm, hne => by
    have h0 := he x (by simp)
    have hok := edge1_ok h h0.1 h0.2.1 h0.2.2.1 h0.2.2.2
    have hes : ∀ y ∈ es, EOk P y := fun y hy => he y (by simp [hy])
    rcases List.mem_cons.1 hm with rfl | hm
    · refine Int.le_trans (edges_le es hok hes _ _) ?_
      unfold edge1
      rw [if_neg hne, getM_set h h0.1 h0.2.1, if_pos ⟨rfl, rfl⟩]
      omega
    · exact edges_in es hok hes e hm hne

theorem kl_le {P : Nat} {M : List (List Int)} (h : Ok P M) (a b n : Nat) (hn : n ≤ P) : getM (kl P n M) a b ≤ getM M a b :=
  kl_ind (fun N => getM N a b ≤ getM M a b) (fun N k i j _ hi hj hN hq => by
    unfold relax
    rw [getM_set hN hi hj]
    split
    · rename_i hab
      rw [hab.1, hab.2] at hq ⊢; omega
    · exact hq) h (Int.le_refl _) n hn

theorem ways_tri {P : Nat} {es : List (Nat × Nat × Int)} (he : ∀ e ∈ es, EOk P e) : Tri P P (ways P es) :=
  kl_tri (edges_ok es (mat0_ok P) he) (edges_diag es (mat0_ok P) he fun i hi => by rw [getM_mat0 hi hi, if_pos rfl]) P (Nat.le_refl _)
theorem ways_in {P : Nat} {es : List (Nat × Nat × Int)} (he : ∀ e ∈ es, EOk P e) (e : Nat × Nat × Int) (hm : e ∈ es) : getM (ways P es) e.1 e.2.1 ≤ e.2.2 := by
  by_cases hne : e.1 = e.2.1
  · rw [← hne, (ways_tri he).diag _ (he e hm).1]; exact (he e hm).2.2.1
  · exact Int.le_trans (kl_le (edges_ok es (mat0_ok P) he) _ _ P (Nat.le_refl _)) (edges_in es (mat0_ok P) he e hm hne)

/-- Against the rank, a way takes time. -/
def Up (P : Nat) (r : Nat → Nat) (M : List (List Int)) : Prop := ∀ i j, i < P → j < P → r j < r i → 1 ≤ getM M i j
theorem edges_up {P : Nat} (r : Nat → Nat) : ∀ (es : List (Nat × Nat × Int)) {M : List (List Int)}, Ok P M → (∀ e ∈ es, EOk P e) → (∀ e ∈ es, r e.2.1 < r e.1 → 1 ≤ e.2.2) → Up P r M → Up P r (edges es M)
  | [], _, _, _, _, hd => hd
  | e :: es, M, h, he, hr, hd => by
    have h0 := he e (by simp)
    refine edges_up r es (edge1_ok h h0.1 h0.2.1 h0.2.2.1 h0.2.2.2) (fun x hx => he x (by simp [hx])) (fun x hx => hr x (by simp [hx])) fun i j hi hj hrr => ?_
    unfold edge1
    have h1 := hd i j hi hj hrr
    split
    · exact h1
    · rw [getM_set h h0.1 h0.2.1]
      split
      · rename_i hab
        have h2 := hr e (by simp)
        rw [hab.1, hab.2] at hrr h1
        have := h2 hrr
        omega
      · exact h1
theorem ways_up {P : Nat} {es : List (Nat × Nat × Int)} (he : ∀ e ∈ es, EOk P e) (r : Nat → Nat) (hr : ∀ e ∈ es, r e.2.1 < r e.1 → 1 ≤ e.2.2) : Up P r (ways P es) := by
  refine kl_ind (Up P r) ?_ (edges_ok es (mat0_ok P) he) (edges_up r es (mat0_ok P) he hr ?_) P (Nat.le_refl _)
  · intro M k i j hk hi hj h hu a b ha hb hrr
    have h1 := hu a b ha hb hrr
    unfold relax
    rw [getM_set h hi hj]
    split
    · rename_i hab
      obtain ⟨rfl, rfl⟩ := hab
      have g1 := h.get hi hk
      have g2 := h.get hk hj
      rw [plusP_eq]
      unfold never
      by_cases hx : r k < r a
      · have := hu a k ha hk hx
        omega
      · have := hu k b hk hb (by omega)
        omega
    · exact h1
  · intro i j hi hj hrr
    rw [getM_mat0 hi hj, if_neg (by rintro rfl; omega)]
    unfold never; omega
end Go.Proofs.YtcgjdljhpcjmeaaDoor.Fw
