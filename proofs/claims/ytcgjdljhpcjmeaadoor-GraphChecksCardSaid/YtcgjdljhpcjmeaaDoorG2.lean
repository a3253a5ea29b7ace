import Derived.Test.YtcgjdljhpcjmeaaDoorG1
/- The document's rounds over the edges come to the program's ways. -/
namespace Go.Proofs.YtcgjdljhpcjmeaaDoor.Fw

/-- One edge tried from one port. -/
def cl1 (i : Nat) (M : List (List Int)) (e : Nat × Nat × Int) : List (List Int) := if plusP (getM M i e.1) e.2.2 < getM M i e.2.1 then setM M i e.2.1 (plusP (getM M i e.1) e.2.2) else M
def cle (i : Nat) (es : List (Nat × Nat × Int)) (M : List (List Int)) : List (List Int) := es.foldl (cl1 i) M
def cli (es : List (Nat × Nat × Int)) (n : Nat) (M : List (List Int)) : List (List Int) := (List.range n).foldl (fun M i => cle i es M) M
def clr (P : Nat) (es : List (Nat × Nat × Int)) (n : Nat) (M : List (List Int)) : List (List Int) := (List.range n).foldl (fun M _ => cli es P M) M
/-- The document's way to it: as many rounds as ports. -/
def closedP (P : Nat) (es : List (Nat × Nat × Int)) : List (List Int) := clr P es P (mat0 P P)

theorem cle_snoc (i : Nat) (es : List (Nat × Nat × Int)) (e : Nat × Nat × Int) (M : List (List Int)) : cle i (es ++ [e]) M = cl1 i (cle i es M) e := by simp [cle]
theorem cli_succ (es : List (Nat × Nat × Int)) (n : Nat) (M : List (List Int)) : cli es (n + 1) M = cle n es (cli es n M) := by simp [cli, List.range_succ]
theorem clr_succ (P : Nat) (es : List (Nat × Nat × Int)) (n : Nat) (M : List (List Int)) : clr P es (n + 1) M = cli es P (clr P es n M) := by simp [clr, List.range_succ]

/-- What one try keeps, all of them keep. -/
theorem cle_ind {P : Nat} (Q : List (List Int) → Prop) (i : Nat) : ∀ (es : List (Nat × Nat × Int)) (_ : ∀ M, ∀ e ∈ es, Q M → Q (cl1 i M e)) {M : List (List Int)}, Q M → Q (cle i es M)
  | [], _, _, q => q
  | e :: es, hQ, M, q => cle_ind (P := P) Q i es (fun M x hx => hQ M x (by simp [hx])) (hQ M e (by simp) q)
theorem cli_ind {P : Nat} (Q : List (List Int) → Prop) (es : List (Nat × Nat × Int)) (hQ : ∀ M i, i < P → ∀ e ∈ es, Q M → Q (cl1 i M e)) {M : List (List Int)} (q : Q M) : ∀ n, n ≤ P → Q (cli es n M)
  | 0, _ => q
  | n + 1, hn => by rw [cli_succ]; exact cle_ind (P := P) Q n es (fun M e he => hQ M n (by omega) e he) (cli_ind Q es hQ q n (by omega))
theorem clr_ind {P : Nat} (Q : List (List Int) → Prop) (es : List (Nat × Nat × Int)) (hQ : ∀ M i, i < P → ∀ e ∈ es, Q M → Q (cl1 i M e)) {M : List (List Int)} (q : Q M) : ∀ n, Q (clr P es n M)
  | 0 => q
  | n + 1 => by rw [clr_succ]; exact cli_ind Q es hQ (clr_ind Q es hQ q n) P (Nat.le_refl _)

theorem cl1_ok {P : Nat} {M : List (List Int)} (h : Ok P M) {i : Nat} (hi : i < P) {e : Nat × Nat × Int} (he : EOk P e) : Ok P (cl1 i M e) := by
  unfold cl1
  split
  · have h1 := h.get hi he.1
    have h2 := plusP_ok h1.1 h1.2 he.2.2.1 he.2.2.2
    exact h.set hi h2.1 h2.2
  · exact h
theorem cl1_le {P : Nat} {M : List (List Int)} (h : Ok P M) {i : Nat} (hi : i < P) {e : Nat × Nat × Int} (he : EOk P e) (a b : Nat) : getM (cl1 i M e) a b ≤ getM M a b := by
  unfold cl1
  split
  · rename_i hlt
    rw [getM_set h hi he.2.1]
    split
    · rename_i hab
      rw [hab.1, hab.2]; omega
    · exact Int.le_refl _
  · exact Int.le_refl _
theorem cl1_to {P : Nat} {M : List (List Int)} (h : Ok P M) {i : Nat} (hi : i < P) {e : Nat × Nat × Int} (he : EOk P e) : getM (cl1 i M e) i e.2.1 ≤ plusP (getM M i e.1) e.2.2 := by
  unfold cl1
  split
  · rw [getM_set h hi he.2.1, if_pos ⟨rfl, rfl⟩]; exact Int.le_refl _
  · omega

section
variable {P : Nat} {es : List (Nat × Nat × Int)} (he : ∀ e ∈ es, EOk P e)
include he
theorem cle_ok {M : List (List Int)} (h : Ok P M) {i : Nat} (hi : i < P) : Ok P (cle i es M) := cle_ind (P := P) (Ok P) i es (fun _ e hm h => cl1_ok h hi (he e hm)) h
theorem cli_ok {M : List (List Int)} (h : Ok P M) (n : Nat) (hn : n ≤ P) : Ok P (cli es n M) := cli_ind (Ok P) es (fun _ _ hi e hm h => cl1_ok h hi (he e hm)) h n hn
theorem clr_ok {M : List (List Int)} (h : Ok P M) (n : Nat) : Ok P (clr P es n M) := clr_ind (Ok P) es (fun _ _ hi e hm h => cl1_ok h hi (he e hm)) h n
theorem cle_le {M : List (List Int)} (h : Ok P M) {i : Nat} (hi : i < P) (a b : Nat) : getM (cle i es M) a b ≤ getM M a b :=
  (cle_ind (P := P) (fun N => Ok P N ∧ getM N a b ≤ getM M a b) i es (fun _ e hm h => ⟨cl1_ok h.1 hi (he e hm), Int.le_trans (cl1_le h.1 hi (he e hm) a b) h.2⟩) ⟨h, Int.le_refl _⟩).2
theorem cli_le {M : List (List Int)} (h : Ok P M) (n : Nat) (hn : n ≤ P) (a b : Nat) : getM (cli es n M) a b ≤ getM M a b :=
  (cli_ind (fun N => Ok P N ∧ getM N a b ≤ getM M a b) es (fun _ _ hi e hm h => ⟨cl1_ok h.1 hi (he e hm), Int.le_trans (cl1_le h.1 hi (he e hm) a b) h.2⟩) ⟨h, Int.le_refl _⟩ n hn).2
end

theorem plusP_mono {a a' b b' : Int} (h : a ≤ a') (h2 : b ≤ b') : plusP a b ≤ plusP a' b' := by rw [plusP_eq, plusP_eq]; omega

theorem cle_edge {P : Nat} {i : Nat} (hi : i < P) : ∀ (es : List (Nat × Nat × Int)), (∀ e ∈ es, EOk P e) → ∀ {M : List (List Int)}, Ok P M → ∀ e ∈ es, getM (cle i es M) i e.2.1 ≤ plusP (getM M i e.1) e.2.2
  | [], _, _, _, e, hm => by simp at hm
  | x :: es, he, M, h, e, hm => by
    have hx := he x (by simp)
    have hok := cl1_ok h hi hx
    have hes : ∀ y ∈ es, EOk P y := fun y hy => he y (by simp [hy])
    rcases List.mem_cons.1 hm with rfl | hm
    · exact Int.le_trans (cle_le hes hok hi _ _) (cl1_to h hi hx)
    · exact Int.le_trans (cle_edge hi es hes hok e hm) (plusP_mono (cl1_le h hi hx _ _) (Int.le_refl _))
theorem cli_edge {P : Nat} {es : List (Nat × Nat × Int)} (he : ∀ e ∈ es, EOk P e) {M : List (List Int)} (h : Ok P M) {i : Nat} (e : Nat × Nat × Int) (hm : e ∈ es) : ∀ n, n ≤ P → i < n → getM (cli es n M) i e.2.1 ≤ plusP (getM M i e.1) e.2.2
  | 0, _, h0 => by omega
  | n + 1, hn, hi => by
    rw [cli_succ]
    by_cases hin : i = n
    · subst hin
      exact Int.le_trans (cle_edge (by omega) es he (cli_ok he h i (by omega)) e hm) (plusP_mono (cli_le he h i (by omega) _ _) (Int.le_refl _))
    · exact Int.le_trans (cle_le he (cli_ok he h n (by omega)) (by omega) _ _) (cli_edge he h e hm n (by omega) (by omega))

/-- A way along edges, with what it takes. -/
inductive Way (es : List (Nat × Nat × Int)) (i : Nat) : Nat → Int → Prop
  | here : Way es i i 0
  | step {x : Int} (e : Nat × Nat × Int) : Way es i e.1 x → e ∈ es → Way es i e.2.1 (x + e.2.2)
theorem Way.trans {es : List (Nat × Nat × Int)} {i k : Nat} {x : Int} (h : Way es i k x) {j : Nat} {y : Int} (h2 : Way es k j y) : Way es i j (x + y) := by
  induction h2 with
  | here => rw [Int.add_zero]; exact h
  | step e _ hm ih => rw [← Int.add_assoc]; exact Way.step e ih hm

/-- What is told is a way's, or there is none. -/
def Att (P : Nat) (es : List (Nat × Nat × Int)) (M : List (List Int)) : Prop := ∀ i j, i < P → j < P → getM M i j = never ∨ Way es i j (getM M i j)
theorem edges_att {P : Nat} (all : List (Nat × Nat × Int)) : ∀ (es : List (Nat × Nat × Int)) {M : List (List Int)}, Ok P M → (∀ e ∈ es, EOk P e) → (∀ e ∈ es, e ∈ all) → Att P all M → Att P all (edges es M)
  | [], _, _, _, _, h => h
  | e :: es, M, h, he, ha, hw => by
    have h0 := he e (by simp)
    refine edges_att all es (edge1_ok h h0.1 h0.2.1 h0.2.2.1 h0.2.2.2) (fun x hx => he x (by simp [hx])) (fun x hx => ha x (by simp [hx])) fun i j hi hj => ?_
    unfold edge1
    split
    · exact hw i j hi hj
    · rw [getM_set h h0.1 h0.2.1]
      split
      · rename_i hab
        obtain ⟨rfl, rfl⟩ := hab
        have w := hw e.1 e.2.1 hi hj
        by_cases hl : getM M e.1 e.2.1 ≤ e.2.2
        · rw [Int.min_eq_left hl]; exact w
        · rw [Int.min_eq_right (by omega)]
          right
          have := Way.step e (Way.here (es := all) (i := e.1)) (ha e (by simp))
          rwa [Int.zero_add] at this
      · exact hw i j hi hj
theorem ways_att {P : Nat} {es : List (Nat × Nat × Int)} (he : ∀ e ∈ es, EOk P e) : Att P es (ways P es) := by
  refine kl_ind (Att P es) ?_ (edges_ok es (mat0_ok P) he) (edges_att es es (mat0_ok P) he (fun _ h => h) ?_) P (Nat.le_refl _)
  · intro M k i j hk hi hj h hu a b ha hb
    unfold relax
    rw [getM_set h hi hj]
    split
    · rename_i hab
      obtain ⟨rfl, rfl⟩ := hab
      by_cases hl : getM M a b ≤ plusP (getM M a k) (getM M k b)
      · rw [Int.min_eq_left hl]; exact hu a b ha hb
      · rw [Int.min_eq_right (by omega)]
        have g1 := h.get ha hk
        have g2 := h.get hk hb
        rw [plusP_eq] at hl ⊢
        by_cases hs : never ≤ getM M a k + getM M k b
        · left; omega
        · right
          rw [Int.min_eq_left (by omega)]
          rcases hu a k ha hk with n1 | w1
          · omega
          · rcases hu k b hk hb with n2 | w2
            · omega
            · exact w1.trans w2
    · exact hu a b ha hb
  · intro i j hi hj
    rw [getM_mat0 hi hj]
    split
    · rename_i e; subst e; right; exact Way.here
    · left; rfl

theorem way_lt {P : Nat} {es : List (Nat × Nat × Int)} (he : ∀ e ∈ es, EOk P e) {i j : Nat} {x : Int} (hi : i < P) (h : Way es i j x) : j < P := by
  cases h with
  | here => exact hi
  | step e _ hm => exact (he e hm).2.1
theorem way_le {P : Nat} {es : List (Nat × Nat × Int)} (he : ∀ e ∈ es, EOk P e) {i j : Nat} {x : Int} (hi : i < P) (h : Way es i j x) : getM (ways P es) i j ≤ x := by
  have T := ways_tri he
  induction h with
  | here => rw [T.diag i hi]; exact Int.le_refl _
  | step e hw hm ih =>
    have h1 := T.tri e.1 i e.2.1 (he e hm).1 hi (he e hm).2.1
    have h2 := ways_in he e hm
    rw [plusP_eq] at h1
    omega

/-- Where the way leaves what is settled. -/
theorem way_cross {P : Nat} {es : List (Nat × Nat × Int)} (he : ∀ e ∈ es, EOk P e) {i j : Nat} {x : Int} (hi : i < P) (s : Nat → Prop) (hs : s i) (h : Way es i j x) :
    x ≤ getM (ways P es) i j → ¬ s j → ∃ e ∈ es, s e.1 ∧ ¬ s e.2.1 ∧ plusP (getM (ways P es) i e.1) e.2.2 ≤ getM (ways P es) i e.2.1 := by
  have T := ways_tri he
  induction h with
  | here => intro _ hn; exact absurd hs hn
  | step e hw hm ih =>
    intro hx hn
    have h1 := T.tri e.1 i e.2.1 (he e hm).1 hi (he e hm).2.1
    have h2 := ways_in he e hm
    have h3 := way_le he hi hw
    rw [plusP_eq] at h1
    by_cases hse : s e.1
    · refine ⟨e, hm, hse, hn, ?_⟩
      rw [plusP_eq]; omega
    · exact ih (by omega) hse

/-- How many ports are not settled yet. -/
def open_ (P : Nat) (D M : List (List Int)) (i : Nat) : Nat := (List.range P).countP fun v => decide (getM M i v ≠ getM D i v)
theorem count_lt {p q : Nat → Bool} : ∀ {l : List Nat}, (∀ v ∈ l, q v = true → p v = true) → (∃ v ∈ l, p v = true ∧ q v = false) → l.countP q < l.countP p
  | [], _, ⟨_, h, _⟩ => by simp at h
  | a :: l, hi, ⟨v, hv, hp, hq⟩ => by
    rw [List.countP_cons, List.countP_cons]
    have hm : l.countP q ≤ l.countP p := List.countP_mono_left fun x hx hqx => hi x (by simp [hx]) hqx
    rcases List.mem_cons.1 hv with rfl | hv
    · simp [hp, hq]; omega
    · have := count_lt (l := l) (fun x hx => hi x (by simp [hx])) ⟨v, hv, hp, hq⟩
      have ha := hi a (by simp)
      cases hqa : q a
      · simp; split <;> omega
      · simp [ha hqa]; omega

/-- What no way beats. -/
def Ge (P : Nat) (D M : List (List Int)) : Prop := Ok P M ∧ ∀ a b, a < P → b < P → getM D a b ≤ getM M a b
theorem cl1_ge {P : Nat} {es : List (Nat × Nat × Int)} (he : ∀ e ∈ es, EOk P e) {M : List (List Int)} {i : Nat} (hi : i < P) {e : Nat × Nat × Int} (hm : e ∈ es) (h : Ge P (ways P es) M) : Ge P (ways P es) (cl1 i M e) := by
  refine ⟨cl1_ok h.1 hi (he e hm), fun a b ha hb => ?_⟩
  unfold cl1
  split
  · rw [getM_set h.1 hi (he e hm).2.1]
    split
    · rename_i hab
      obtain ⟨rfl, rfl⟩ := hab
      have h1 := (ways_tri he).tri e.1 a e.2.1 (he e hm).1 ha (he e hm).2.1
      exact Int.le_trans h1 (plusP_mono (h.2 a e.1 ha (he e hm).1) (ways_in he e hm))
    · exact h.2 a b ha hb
  · exact h.2 a b ha hb
theorem cli_ge {P : Nat} {es : List (Nat × Nat × Int)} (he : ∀ e ∈ es, EOk P e) {M : List (List Int)} (h : Ge P (ways P es) M) : Ge P (ways P es) (cli es P M) :=
  cli_ind (Ge P (ways P es)) es (fun _ _ hi _ hm h => cl1_ge he hi hm h) h P (Nat.le_refl _)
theorem mat0_ge {P : Nat} {es : List (Nat × Nat × Int)} (he : ∀ e ∈ es, EOk P e) : Ge P (ways P es) (mat0 P P) := by
  refine ⟨mat0_ok P, fun a b ha hb => ?_⟩
  rw [getM_mat0 ha hb]
  split
  · rename_i e; subst e; rw [(ways_tri he).diag a ha]; exact Int.le_refl _
  · exact ((ways_ok he).get ha hb).2

theorem round_settles {P : Nat} {es : List (Nat × Nat × Int)} (he : ∀ e ∈ es, EOk P e) {M : List (List Int)} (h : Ge P (ways P es) M) {i : Nat} (hi : i < P) (hii : getM M i i = 0) :
    open_ P (ways P es) (cli es P M) i = 0 ∨ open_ P (ways P es) (cli es P M) i < open_ P (ways P es) M i := by
  have hle := cli_le he h.1 P (Nat.le_refl _) i
  have hge := (cli_ge he h).2 i
  by_cases hall : ∀ v, v < P → getM M i v = getM (ways P es) i v
  · left
    unfold open_
    rw [List.countP_eq_zero]
    intro v hv
    have hv := List.mem_range.1 hv
    simp only [decide_eq_true_eq, ne_eq, Decidable.not_not]
    have h1 := hle v
    have h2 := hge v hi hv
    rw [hall v hv] at h1
    omega
  · right
    obtain ⟨v, hv⟩ := Classical.not_forall.1 hall
    have hvP : v < P := Classical.byContradiction fun q => hv fun a => absurd a q
    have hvn : getM M i v ≠ getM (ways P es) i v := fun q => hv fun _ => q
    have g1 := h.2 i v hi hvP
    have g2 := (h.1.get hi hvP).2
    have hw : Way es i v (getM (ways P es) i v) := by
      rcases ways_att he i v hi hvP with n | w
      · omega
      · exact w
    obtain ⟨e, hm, s1, s2, s3⟩ := way_cross he hi (fun u => getM M i u = getM (ways P es) i u) (by rw [hii, (ways_tri he).diag i hi]) hw (Int.le_refl _) hvn
    have heP := he e hm
    refine count_lt (fun u hu hq => ?_) ⟨e.2.1, List.mem_range.2 heP.2.1, by simpa using s2, ?_⟩
    · have hu := List.mem_range.1 hu
      have k1 := hle u
      have k2 := hge u hi hu
      have k3 := h.2 i u hi hu
      simp only [decide_eq_true_eq, ne_eq] at hq ⊢
      omega
    · have k1 := cli_edge he h.1 (i := i) e hm P (Nat.le_refl _) hi
      have k2 := hge e.2.1 hi heP.2.1
      have s1' : getM M i e.1 = getM (ways P es) i e.1 := s1
      rw [s1'] at k1
      simp only [ne_eq, decide_eq_false_iff_not, Decidable.not_not]
      omega

theorem clr_open {P : Nat} {es : List (Nat × Nat × Int)} (he : ∀ e ∈ es, EOk P e) {i : Nat} (hi : i < P) : ∀ n, n ≤ P → Ge P (ways P es) (clr P es n (mat0 P P)) ∧ getM (clr P es n (mat0 P P)) i i = 0 ∧ open_ P (ways P es) (clr P es n (mat0 P P)) i ≤ P - n
  | 0, _ => by
    refine ⟨mat0_ge he, ?_, ?_⟩
    · show getM (mat0 P P) i i = 0
      rw [getM_mat0 hi hi, if_pos rfl]
    · exact Nat.le_trans List.countP_le_length (by simp)
  | n + 1, hn => by
    obtain ⟨h1, h2, h3⟩ := clr_open he hi n (by omega)
    rw [clr_succ]
    refine ⟨cli_ge he h1, ?_, ?_⟩
    · have k1 := cli_le he h1.1 P (Nat.le_refl _) i i
      have k2 := (cli_ge he h1).1.get hi hi
      omega
    · rcases round_settles he h1 hi h2 with h | h <;> omega

theorem getM_ext {P : Nat} {M N : List (List Int)} (h : Ok P M) (h' : Ok P N) (e : ∀ a b, a < P → b < P → getM M a b = getM N a b) : M = N := by
  apply List.ext_getElem (by rw [h.len, h'.len])
  intro i h1 h2
  have hi : i < P := by rw [← h.len]; exact h1
  have r1 := h.rowlen hi
  have r2 := h'.rowlen hi
  rw [getD_of_lt _ _ _ h1] at r1
  rw [getD_of_lt _ _ _ h2] at r2
  apply List.ext_getElem (by rw [r1, r2])
  intro j q1 q2
  have := e i j hi (by omega)
  unfold getM at this
  rwa [getD_of_lt _ _ _ h1, getD_of_lt _ _ _ h2, getD_of_lt _ _ _ q1, getD_of_lt _ _ _ q2] at this

/-- The document's way to it comes to the program's. -/
theorem closed_ways {P : Nat} {es : List (Nat × Nat × Int)} (he : ∀ e ∈ es, EOk P e) : closedP P es = ways P es := by
  refine getM_ext (clr_ok he (mat0_ok P) P) (ways_ok he) fun a b ha hb => ?_
  obtain ⟨_, _, h3⟩ := clr_open he ha P (Nat.le_refl _)
  have h0 : open_ P (ways P es) (clr P es P (mat0 P P)) a = 0 := by omega
  unfold open_ at h0
  rw [List.countP_eq_zero] at h0
  have h4 := h0 b (List.mem_range.2 hb)
  show getM (clr P es P (mat0 P P)) a b = _
  simpa using h4
end Go.Proofs.YtcgjdljhpcjmeaaDoor.Fw
