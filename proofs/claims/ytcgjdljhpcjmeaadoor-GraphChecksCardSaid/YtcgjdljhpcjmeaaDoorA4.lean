import Derived.Test.YtcgjdljhpcjmeaaDoorA3
import Derived.Test.YtcgjdljhpcjmeaaDoorWWords
import Derived.Test.YtcgjdljhpcjmeaaDoorWMore
import Derived.Test.YtcgjdljhpcjmeaaDoorShelf
namespace Go.Proofs.YtcgjdljhpcjmeaaDoor
open Go.RowKit Go.Extern.Stop Go.Stop Go.Extern Go.Proofs.YtcgjdljhpcjmeaaDoorW.PrintWords Go.Proofs.YtcgjdljhpcjmeaaDoorW.PrintMore

theorem info85 : (Tryd.prog.info? 85).map (fun i => (i.zero, i.size, i.bytes)) = some (some (.agg #[.string ⟨#[]⟩, .int .i64 0]), 2, 24) := by kernel_rfl
/-- A place of an error. -/
def kPl : Kd (ByteArray × Int) := Kd.pair Kd.string (Kd.int .i64)
theorem kPl_mkM (w : World) (base : Nat) (ok : Nat → Prop) (x : ByteArray × Int) : kPl.M w base ok x [.string x.1, .int .i64 x.2] := ⟨[.string x.1], [.int .i64 x.2], rfl, rfl, rfl⟩

set_option maxHeartbeats 1000000 in
set_option maxRecDepth 100000 in
theorem path_calls (k : Int) (l : List (ByteArray × Int)) (v : Value) (w : World) (h : ErrAt w k l v) (hlen : l.length < 1000) :
    Calls Tryd.prog 38 #[v] w fun e w' => ∃ r, e = .returned r ∧ kPl.R 85 w' w.heap.size (fun _ => True) r l ∧ Below w.heap.size w w' := by
  have H := Asd.mk h
  have HL := Asd.mk hlen
  clear h hlen
  go_enter Tryd.func38, Tryd.ntmps38
  go_wp2
  go_loopg [0, 3] l.length (fun kq v0 v3 w' => ∃ l1 l2, Asd (l = l1 ++ l2) ∧ Asd (l2.length = kq) ∧ Asd (ErrAt w k l2 v0) ∧ Asd (kPl.R 85 w' w.heap.size (fun _ => True) v3 l1) ∧ Asd (Below w.heap.size w w'))
  case atStart => exact ⟨[], l, ⟨rfl⟩, ⟨rfl⟩, H, ⟨Kd.R_nil _ _ _ _ _⟩, ⟨Below.refl _ _⟩⟩
  case round =>
    obtain ⟨l1, l2, HS, HK, HE, HR, HB⟩ := hrel
    cases l2 with
    | nil =>
      obtain rfl := HE.out
      have aE := T.asErrno
      go_wp2
      go_ret
      refine ⟨_, rfl, ?_, HB.out⟩
      have := HS.out
      rw [List.append_nil] at this
      rw [this]
      exact HR.out
    | cons p l2 =>
      obtain ⟨b, inner, rfl, h0, h1, h2, h3⟩ := HE.out
      have H3 := Asd.mk h3
      have H2 := Asd.mk h2
      have h0' := cell_keep HB.out h0
      have h1' := cell_keep HB.out h1
      have h2' := cell_keep HB.out h2
      have aW := T.asWrapped
      clear h0 h1 h2 h3 HE
      go_wp2_with (at_builtin; refine Kd.R_append kPl (w0 := w) w.heap.size rfl (.tmp 14) (.tmp 19) 83 85 (.agg #[.string ⟨#[]⟩, .int .i64 0]) 24 rfl Tryd.underlying83 info85 rfl (by decide) (by omega) u3 l1 p [.string p.1, .int .i64 p.2] (fun _ => True) (fun _ => False) rfl rfl (kPl_mkM _ _ _ p) (fun _ hk => hk.elim) (fun _ _ => trivial) HR.out HB.out HB.out.size ?aL ?_; (case aL => have := HL.out; rw [HS.out] at this; simp at this; omega); intro v1 w1 ho hb hg hat; have HO1 := Asd.mk ho; have HB1 := Asd.mk hb; have h2'' := cell_keep hb H2.out; clear ho hb hg hat h0' h1')
      go_roundg l2.length
      case measure => have := HK.out; simp at this; omega
      case rel => exact ⟨l1 ++ [p], l2, ⟨by rw [HS.out]; simp⟩, ⟨rfl⟩, H3, HO1, HB1⟩

/-- The words of api's numbers. -/
def wordOf (k : Int) : ByteArray :=
  if k = 0 then ⟨#[111, 107]⟩ else if k = 1 then ⟨#[97, 114, 103, 117, 109, 101, 110, 116]⟩ else if k = 2 then ⟨#[112, 111, 114, 116]⟩ else if k = 3 then ⟨#[99, 121, 99, 108, 101]⟩ else ⟨#[109, 97, 110, 121]⟩
theorem wordOf0 : wordOf 0 = ⟨#[111, 107]⟩ := rfl
theorem wordOf1 : wordOf 1 = ⟨#[97, 114, 103, 117, 109, 101, 110, 116]⟩ := rfl
theorem wordOf2 : wordOf 2 = ⟨#[112, 111, 114, 116]⟩ := rfl
theorem wordOf3 : wordOf 3 = ⟨#[99, 121, 99, 108, 101]⟩ := rfl
theorem wordOf4 : wordOf 4 = ⟨#[109, 97, 110, 121]⟩ := rfl
set_option maxHeartbeats 1000000 in
theorem word_calls (k : Int) (h0 : 0 ≤ k) (h1 : k ≤ 4) (w : World) :
    Calls Tryd.prog 40 #[.int .i64 k] w fun e w' => e = .returned (.string (wordOf k)) ∧ Below w.heap.size w w' := by
  have hk : k = 0 ∨ k = 1 ∨ k = 2 ∨ k = 3 ∨ k = 4 := by omega
  rcases hk with rfl | rfl | rfl | rfl | rfl
  · rw [wordOf0]; clear h0 h1
    go_enter Tryd.func40, Tryd.ntmps40
    go_wp2
    go_ret
    exact ⟨rfl, below_al (Below.refl _ _) _⟩
  · rw [wordOf1]; clear h0 h1
    go_enter Tryd.func40, Tryd.ntmps40
    go_wp2
    go_ret
    exact ⟨rfl, below_al (Below.refl _ _) _⟩
  · rw [wordOf2]; clear h0 h1
    go_enter Tryd.func40, Tryd.ntmps40
    go_wp2
    go_ret
    exact ⟨rfl, below_al (Below.refl _ _) _⟩
  · rw [wordOf3]; clear h0 h1
    go_enter Tryd.func40, Tryd.ntmps40
    go_wp2
    go_ret
    exact ⟨rfl, below_al (Below.refl _ _) _⟩
  · rw [wordOf4]; clear h0 h1
    go_enter Tryd.func40, Tryd.ntmps40
    go_wp2
    go_ret
    exact ⟨rfl, below_al (Below.refl _ _) _⟩
end Go.Proofs.YtcgjdljhpcjmeaaDoor
