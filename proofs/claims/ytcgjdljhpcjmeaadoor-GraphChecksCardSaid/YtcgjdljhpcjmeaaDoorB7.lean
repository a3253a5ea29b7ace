import Derived.Test.YtcgjdljhpcjmeaaDoorB6
import Derived.Test.YtcgjdljhpcjmeaaDoorA6
namespace Go.Proofs.YtcgjdljhpcjmeaaDoor
open Go.RowKit Go.Proofs.YtcgjdljhpcjmeaaDoorW.PrintWords Go.Proofs.YtcgjdljhpcjmeaaDoorW.PrintMore PGraphChecks

/-- What Paths answers: the ways, or nothing. -/
def PathsO (w : World) (base : Nat) (P : Int) (es : List S78) (ins : List Int) (v : Value) : Prop :=
  if checkE P es ins = none then ∃ rows, Mat w base v P.toNat rows (Fw.ways P.toNat (esOf es)) else v = .slice none 0 0

set_option maxHeartbeats 2000000 in
set_option maxRecDepth 100000 in
theorem paths_calls (P : Int) (AE AI : Option Addr) (cE cI : Nat) (es : List S78) (ins : List Int) (w : World) (hE : Kd.C k78 w AE es.length es) (hcE : es.length ≤ cE) (hI : Kd.C (Kd.int .i64) w AI ins.length ins) (hcI : ins.length ≤ cI) (ha : EAdd es) :
    Calls Tryd.prog 13 #[.agg #[.int .i64 P, .slice AE es.length cE, .slice AI ins.length cI]] w fun e w' => ∃ v, e = .returned v ∧ PathsO w' w.heap.size P es ins v ∧ Below w.heap.size w w' := by
  have HE := Asd.mk hE
  have HI := Asd.mk hI
  have HCI := Asd.mk hcI
  have HCE := Asd.mk hcE
  have HA := Asd.mk ha
  clear hE hI hcI ha hcE
  have HB := Asd.mk (below_al (Below.refl w.heap.size w) (.cells #[.int .i64 P, .slice AE es.length cE, .slice AI ins.length cI] 32))
  have HG : Asd (∀ {W : World}, Below (w.alloc (.cells #[.int .i64 P, .slice AE es.length cE, .slice AI ins.length cI] 32)).heap.size (w.alloc (.cells #[.int .i64 P, .slice AE es.length cE, .slice AI ins.length cI] 32)) W → W.cell? ⟨w.heap.size, 0, none⟩ = some (.int .i64 P) ∧ W.cell? ⟨w.heap.size, 1, none⟩ = some (.slice AE es.length cE) ∧ W.cell? ⟨w.heap.size, 2, none⟩ = some (.slice AI ins.length cI)) :=
    ⟨fun {W} hb => ⟨cell_keep hb (by simp), cell_keep hb (by simp), cell_keep hb (by simp)⟩⟩
  go_enter Tryd.func13, Tryd.ntmps13
  go_wp2_with fail
  generalize w.alloc (.cells #[.int .i64 P, .slice AE es.length cE, .slice AI ins.length cI] 32) = W0 at *
  refine (check_calls P AE AI cE cI es ins _ (Kd.C_below HE.out HB.out) HCE.out (Kd.C_below HI.out HB.out) HCI.out HA.out).mono ?_
  rintro e w1 ⟨v1, rfl, hv1, hb⟩
  have HB1 := Asd.mk hb
  clear hb
  cases hck : checkE P es ins with
  | some q =>
    obtain ⟨ti, ui, rfl⟩ : ∃ t u, v1 = .iface t u := by rw [hck] at hv1; exact ErrAt.iface hv1
    have HQ := Asd.mk hck
    clear hv1 hck
    go_wp2
    go_ret
    exact ⟨_, rfl, by unfold PathsO; rw [if_neg (by rw [HQ.out]; simp)]; rfl, HB.out.trans (HB1.out.mono HB.out.size)⟩
  | none =>
    rw [hck] at hv1
    obtain rfl : v1 = .nilIface := hv1
    have HQ := Asd.mk hck
    obtain ⟨g0, g1, g2⟩ := HG.out HB1.out
    obtain ⟨hp1, hp2, hed⟩ := checkE_none hck
    obtain ⟨n, rfl⟩ := Int.eq_ofNat_of_zero_le (show 0 ≤ P by omega)
    have HIN := Asd.mk (EIn_of hed HA.out)
    clear hed hck
    go_wp2_with fail
    refine (ways_calls n (by omega) (by omega) AE AI cE cI es ins.length _ (Kd.C_below HE.out (HB.out.trans (HB1.out.mono HB.out.size))) HIN.out).mono ?_
    rintro e w3 ⟨v, rows, rfl, hm, hb⟩
    have HM := Asd.mk hm
    have HB2 := Asd.mk (HB1.out.trans (hb.mono HB1.out.size))
    clear hm hb g0 g1 g2
    go_wp2
    go_ret
    refine ⟨_, rfl, ?_, HB.out.trans (HB2.out.mono HB.out.size)⟩
    unfold PathsO
    rw [if_pos HQ.out, Int.toNat_natCast]
    exact ⟨rows, HM.out.lower (Nat.le_trans HB.out.size HB1.out.size)⟩

theorem blk_new {w : World} {o : Obj} {i : Nat} (h : i = w.heap.size) : (w.alloc o).heap[i]? = some o := by
  subst h
  show (w.heap.push o)[w.heap.size]? = _
  simp
theorem blk_old {w : World} {o o' : Obj} {i : Nat} (h : w.heap[i]? = some o') : (w.alloc o).heap[i]? = some o' := by
  rw [Below.heap_alloc _ _ _ (Array.getElem?_eq_some_iff.1 h).1, h]
theorem blk_keep {w w1 : World} (hb : Below w.heap.size w w1) {o : Obj} {i : Nat} (h : w.heap[i]? = some o) : w1.heap[i]? = some o :=
  (hb.block i (Array.getElem?_eq_some_iff.1 h).1).trans h
theorem blk_cell {w : World} {b i : Nat} {c : Array Value} {t : TypeId} {fr : Nat × Nat} (h : w.heap[b]? = some (.cells c t fr)) : w.cell? ⟨b, i, none⟩ = c[i]? := by simp [World.cell?, h]
/-! A slice's literal of edges, in a block. -/
def cells78 (es : List S78) : List Value := es.flatMap fun e => [.int .i64 e.f0, .int .i64 e.f1, .int .u64 e.f2]
theorem cells78_at : ∀ (es : List S78) (j : Nat) (e : S78), es[j]? = some e → (cells78 es)[j * 3]? = some (.int .i64 e.f0) ∧ (cells78 es)[j * 3 + 1]? = some (.int .i64 e.f1) ∧ (cells78 es)[j * 3 + 2]? = some (.int .u64 e.f2)
  | [], j, e, h => by simp at h
  | x :: r, 0, e, h => by
    obtain rfl : x = e := by simpa using h
    exact ⟨rfl, rfl, rfl⟩
  | x :: r, j + 1, e, h => by
    have ih := cells78_at r j e (by simpa using h)
    have e1 : (j + 1) * 3 = j * 3 + 3 := by omega
    rw [e1]
    exact ih
theorem C78_of_block {w : World} {b : Nat} {es : List S78} {t : TypeId} {fr : Nat × Nat} (h : w.heap[b]? = some (.cells (cells78 es).toArray t fr)) (hl : es.length ≤ 9223372036854775807) : Kd.C k78 w (some ⟨b, 0, none⟩) es.length es := by
  refine ⟨rfl, hl, fun _ => ⟨⟨b, 0, none⟩, rfl, fun j e hj => ⟨[.int .i64 e.f0, .int .i64 e.f1, .int .u64 e.f2], rfl, k78_mk w e, fun i u hu => ?_⟩⟩⟩
  obtain ⟨h0, h1, h2⟩ := cells78_at es j e hj
  have hi : i < 3 := by have := (List.getElem?_eq_some_iff.1 hu).1; simpa using this
  have hc : w.cell? ⟨b, j * 3 + i, none⟩ = (cells78 es)[j * 3 + i]? := by simp [World.cell?, h]
  show w.cell? ((⟨b, 0, none⟩ : Addr).add (j * 3 + i)) = some u
  rw [add_plain, hc]
  rcases (show i = 0 ∨ i = 1 ∨ i = 2 by omega) with rfl | rfl | rfl
  · cases hu; exact h0
  · cases hu; exact h1
  · cases hu; exact h2
theorem Cint_of_block {k : IntKind} {w : World} {b : Nat} {l : List Int} {t : TypeId} {fr : Nat × Nat} (h : w.heap[b]? = some (.cells (l.map (Value.int k)).toArray t fr)) (hl : l.length ≤ 9223372036854775807) : Kd.C (Kd.int k) w (some ⟨b, 0, none⟩) l.length l := by
  refine ⟨rfl, hl, fun _ => ⟨⟨b, 0, none⟩, rfl, fun j e hj => ⟨[.int k e], rfl, rfl, fun i u hu => ?_⟩⟩⟩
  obtain rfl : i = 0 := by have := (List.getElem?_eq_some_iff.1 hu).1; simp at this; omega
  cases hu
  rw [add_plain]
  simp [World.cell?, h, Kd.int, Kd.scalar, hj]
end Go.Proofs.YtcgjdljhpcjmeaaDoor
