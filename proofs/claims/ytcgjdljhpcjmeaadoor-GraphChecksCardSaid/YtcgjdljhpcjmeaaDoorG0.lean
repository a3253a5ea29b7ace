/- The graph's ways, as plain functions on lists. -/
namespace Go.Proofs.YtcgjdljhpcjmeaaDoor.Fw

def never : Int := 18446744073709551615
def plusP (a b : Int) : Int := if a ≥ never - b then never else a + b
def getM (M : List (List Int)) (i j : Nat) : Int := (M.getD i []).getD j 0
def setM (M : List (List Int)) (i j : Nat) (x : Int) : List (List Int) := M.set i ((M.getD i []).set j x)
def row0 (P p : Nat) : List Int := (List.replicate P never).set p 0
def mat0 (P n : Nat) : List (List Int) := (List.range n).map (row0 P)
/-- An edge laid. -/
def edge1 (M : List (List Int)) (e : Nat × Nat × Int) : List (List Int) := if e.1 = e.2.1 then M else setM M e.1 e.2.1 (min (getM M e.1 e.2.1) e.2.2)
def edges (es : List (Nat × Nat × Int)) (M : List (List Int)) : List (List Int) := es.foldl edge1 M
def relax (k i : Nat) (M : List (List Int)) (j : Nat) : List (List Int) := setM M i j (min (getM M i j) (plusP (getM M i k) (getM M k j)))
def jl (k i n : Nat) (M : List (List Int)) : List (List Int) := (List.range n).foldl (relax k i) M
def il (P k n : Nat) (M : List (List Int)) : List (List Int) := (List.range n).foldl (fun M i => jl k i P M) M
def kl (P n : Nat) (M : List (List Int)) : List (List Int) := (List.range n).foldl (fun M k => il P k P M) M
def ways (P : Nat) (es : List (Nat × Nat × Int)) : List (List Int) := kl P P (edges es (mat0 P P))

/-- A square of numbers that fit. -/
structure Ok (P : Nat) (M : List (List Int)) : Prop where
  len : M.length = P
  row : ∀ r ∈ M, r.length = P ∧ ∀ x ∈ r, 0 ≤ x ∧ x ≤ never

theorem jl_succ (k i n : Nat) (M : List (List Int)) : jl k i (n + 1) M = relax k i (jl k i n M) n := by simp [jl, List.range_succ]
theorem il_succ (P k n : Nat) (M : List (List Int)) : il P k (n + 1) M = jl k n P (il P k n M) := by simp [il, List.range_succ]
theorem kl_succ (P n : Nat) (M : List (List Int)) : kl P (n + 1) M = il P n P (kl P n M) := by simp [kl, List.range_succ]
theorem mat0_succ (P n : Nat) : mat0 P (n + 1) = mat0 P n ++ [row0 P n] := by simp [mat0, List.range_succ]
theorem edges_snoc (es : List (Nat × Nat × Int)) (e : Nat × Nat × Int) (M : List (List Int)) : edges (es ++ [e]) M = edge1 (edges es M) e := by simp [edges]

theorem getD_of_lt {α : Type} (l : List α) (i : Nat) (d : α) (h : i < l.length) : l.getD i d = l[i] := by simp [List.getD_eq_getElem?_getD, h]

theorem Ok.mem {P : Nat} {M : List (List Int)} (h : Ok P M) {i : Nat} (hi : i < P) : M.getD i [] ∈ M := by
  rw [getD_of_lt _ _ _ (by rw [h.len]; exact hi)]
  exact List.getElem_mem _
theorem Ok.rowlen {P : Nat} {M : List (List Int)} (h : Ok P M) {i : Nat} (hi : i < P) : (M.getD i []).length = P := (h.row _ (h.mem hi)).1
theorem Ok.get {P : Nat} {M : List (List Int)} (h : Ok P M) {i j : Nat} (hi : i < P) (hj : j < P) : 0 ≤ getM M i j ∧ getM M i j ≤ never := by
  unfold getM
  have hl := h.rowlen hi
  rw [getD_of_lt (M.getD i []) j 0 (by rw [hl]; exact hj)]
  exact (h.row _ (h.mem hi)).2 _ (List.getElem_mem _)
theorem Ok.set {P : Nat} {M : List (List Int)} (h : Ok P M) {i j : Nat} {x : Int} (hi : i < P) (h0 : 0 ≤ x) (h1 : x ≤ never) : Ok P (setM M i j x) := by
  refine ⟨by simp [setM, h.len], fun r hr => ?_⟩
  rcases List.mem_or_eq_of_mem_set hr with hr | rfl
  · exact h.row r hr
  · refine ⟨by rw [List.length_set, h.rowlen hi], fun y hy => ?_⟩
    rcases List.mem_or_eq_of_mem_set hy with hy | rfl
    · exact (h.row _ (h.mem hi)).2 y hy
    · exact ⟨h0, h1⟩
theorem plusP_ok {a b : Int} (ha : 0 ≤ a) (ha' : a ≤ never) (hb : 0 ≤ b) (hb' : b ≤ never) : 0 ≤ plusP a b ∧ plusP a b ≤ never := by
  unfold plusP never at *
  split <;> omega
theorem min_ok {a b : Int} (ha : 0 ≤ a) (ha' : a ≤ never) (hb : 0 ≤ b) (hb' : b ≤ never) : 0 ≤ min a b ∧ min a b ≤ never := by omega
theorem row0_ok (P p : Nat) : (row0 P p).length = P ∧ ∀ x ∈ row0 P p, 0 ≤ x ∧ x ≤ never := by
  refine ⟨by simp [row0], fun x hx => ?_⟩
  rcases List.mem_or_eq_of_mem_set hx with hx | rfl
  · obtain ⟨_, rfl⟩ := List.mem_replicate.1 hx
    unfold never; omega
  · unfold never; omega
theorem mat0_ok (P : Nat) : Ok P (mat0 P P) := by
  refine ⟨by simp [mat0], fun r hr => ?_⟩
  obtain ⟨p, _, rfl⟩ := List.mem_map.1 hr
  exact row0_ok P p
theorem edge1_ok {P : Nat} {M : List (List Int)} (h : Ok P M) {e : Nat × Nat × Int} (h1 : e.1 < P) (h2 : e.2.1 < P) (h3 : 0 ≤ e.2.2) (h4 : e.2.2 ≤ never) : Ok P (edge1 M e) := by
  unfold edge1
  split
  · exact h
  · have := h.get h1 h2
    have := min_ok this.1 this.2 h3 h4
    exact h.set h1 this.1 this.2
def EOk (P : Nat) (e : Nat × Nat × Int) : Prop := e.1 < P ∧ e.2.1 < P ∧ 0 ≤ e.2.2 ∧ e.2.2 ≤ never
theorem edges_ok {P : Nat} : ∀ (es : List (Nat × Nat × Int)) {M : List (List Int)}, Ok P M → (∀ e ∈ es, EOk P e) → Ok P (edges es M)
  | [], _, h, _ => h
  | e :: es, M, h, he => by
    have h0 := he e (by simp)
    exact edges_ok es (edge1_ok h h0.1 h0.2.1 h0.2.2.1 h0.2.2.2) (fun x hx => he x (by simp [hx]))
theorem relax_ok {P : Nat} {M : List (List Int)} (h : Ok P M) {k i j : Nat} (hk : k < P) (hi : i < P) (hj : j < P) : Ok P (relax k i M j) := by
  have h1 := h.get hi hk
  have h2 := h.get hk hj
  have h3 := h.get hi hj
  have h4 := plusP_ok h1.1 h1.2 h2.1 h2.2
  have h5 := min_ok h3.1 h3.2 h4.1 h4.2
  exact h.set hi h5.1 h5.2
theorem jl_ok {P : Nat} {M : List (List Int)} (h : Ok P M) {k i : Nat} (hk : k < P) (hi : i < P) : ∀ n, n ≤ P → Ok P (jl k i n M)
  | 0, _ => h
  | n + 1, hn => by rw [jl_succ]; exact relax_ok (jl_ok h hk hi n (by omega)) hk hi (by omega)
theorem il_ok {P : Nat} {M : List (List Int)} (h : Ok P M) {k : Nat} (hk : k < P) : ∀ n, n ≤ P → Ok P (il P k n M)
  | 0, _ => h
  | n + 1, hn => by rw [il_succ]; exact jl_ok (il_ok h hk n (by omega)) hk (by omega) P (Nat.le_refl _)
theorem kl_ok {P : Nat} {M : List (List Int)} (h : Ok P M) : ∀ n, n ≤ P → Ok P (kl P n M)
  | 0, _ => h
  | n + 1, hn => by rw [kl_succ]; exact il_ok (kl_ok h n (by omega)) (by omega) P (Nat.le_refl _)
theorem ways_ok {P : Nat} {es : List (Nat × Nat × Int)} (he : ∀ e ∈ es, EOk P e) : Ok P (ways P es) := kl_ok (edges_ok es (mat0_ok P) he) P (Nat.le_refl _)
end Go.Proofs.YtcgjdljhpcjmeaaDoor.Fw
