import Derived.Test.YtcgjdljhpcjmeaaDoorA1
import Derived.Lib.Hide
import Derived.Deep.LoopGhost
namespace Go.Proofs.YtcgjdljhpcjmeaaDoor
open Go.RowKit Go.Extern.Stop Go.Stop Go.Extern

/-- A fact that the walk's simp doesn't look into. -/
structure Asd (p : Prop) : Prop where mk :: (out : p)

/-- An error value: a number at places, the outer ones ahead. -/
def ErrAt (w : World) (k : Int) : List (ByteArray × Int) → Value → Prop
  | [], v => v = .iface 38 (.int .i64 k)
  | (s, n) :: l, v => ∃ b inner, v = .iface 108 (.pointer (some ⟨b, 0, none⟩)) ∧ w.cell? ⟨b, 0, none⟩ = some (.string s) ∧ w.cell? ⟨b, 1, none⟩ = some (.int .i64 n) ∧ w.cell? ⟨b, 2, none⟩ = some inner ∧ ErrAt w k l inner

theorem cell_keep {w w1 : World} (hb : Below w.heap.size w w1) {a : Addr} {v : Value} (hc : w.cell? a = some v) : w1.cell? a = some v := (hb.cell (World.block_lt_of_cell? w a hc)).trans hc

theorem ErrAt.below {w w1 : World} (hb : Below w.heap.size w w1) {k : Int} : ∀ {l : List (ByteArray × Int)} {v : Value}, ErrAt w k l v → ErrAt w1 k l v
  | [], _, h => h
  | (_, _) :: _, _, ⟨b, inner, e, h0, h1, h2, h3⟩ => ⟨b, inner, e, cell_keep hb h0, cell_keep hb h1, cell_keep hb h2, ErrAt.below hb h3⟩

theorem ErrAt.iface {w : World} {k : Int} {l : List (ByteArray × Int)} {v : Value} (h : ErrAt w k l v) : ∃ t u, v = .iface t u := by
  cases l with
  | nil => exact ⟨_, _, h⟩
  | cons p l => obtain ⟨b, inner, e, _⟩ := h; exact ⟨_, _, e⟩

theorem below_al {w W : World} (h : Below w.heap.size w W) (o : Obj) : Below w.heap.size w (W.alloc o) := h.alloc h.size o

set_option maxHeartbeats 400000 in
theorem at_calls (s : ByteArray) (n : Int) (k : Int) (l : List (ByteArray × Int)) (v : Value) (w : World) (h : ErrAt w k l v) :
    Calls Tryd.prog 35 #[v, .string s, .int .i64 n] w fun e w' => ∃ r, e = .returned r ∧ ErrAt w' k ((s, n) :: l) r ∧ Below w.heap.size w w' := by
  obtain ⟨t, u, rfl⟩ := h.iface
  have H := Asd.mk h
  clear h
  go_enter Tryd.func35, Tryd.ntmps35
  go_wp2
  go_ret
  refine ⟨_, rfl, ⟨_, _, rfl, ?_, ?_, ?_, H.out.below (below_al (Below.refl _ _) _)⟩, below_al (Below.refl _ _) _⟩ <;> simp

set_option maxHeartbeats 1000000 in
set_option maxRecDepth 100000 in
theorem as_calls (k : Int) (l : List (ByteArray × Int)) (v old : Value) (t : Addr) (a : Addr) (w : World) (h : ErrAt w k l v) (ht : w.cell? t = some old) (hf : w.frozen? t = false) (ha : w.cell? a = some (.pointer (some t))) :
    Calls Tryd.prog 64 #[v, .iface 82 (.pointer (some t)), .agg #[.pointer (some ⟨4, 82, none⟩), .pointer (some a), .int .u64 150], .iface 141 (.agg #[.pointer (some ⟨4, 38, none⟩)])] w
      fun e w' => e = .returned (.bool true) ∧ ∃ w1, Below w.heap.size w w1 ∧ w' = w1.setCell t (.int .i64 k) := by
  have h61 := @run_callFunc_extern Tryd.prog 61 _ (fun args => ReflectliteValue.unpack (args.getD 0 (.tuple #[]))) Tryd.func61 (by kernel_rfl) (by kernel_rfl) (by kernel_rfl) (by kernel_rfl)
  have h67 := @run_callFunc_extern Tryd.prog 67 _ ReflectliteType.typeOf Tryd.func67 (by kernel_rfl) (by kernel_rfl) (by kernel_rfl) (by kernel_rfl)
  have h134 := @run_callFunc_extern Tryd.prog 134 _ (ReflectliteType.relation "AssignableTo" ReflectliteType.assignableTo) Tryd.func134 (by kernel_rfl) (by kernel_rfl) (by kernel_rfl) (by kernel_rfl)
  have h79 := @run_callFunc_extern Tryd.prog 79 _ (ReflectliteValue.method (ReflectliteValue.valueError "reflectlite.Value.Elem" 0) ReflectliteValue.elem) Tryd.func79 (by kernel_rfl) (by kernel_rfl) (by kernel_rfl) (by kernel_rfl)
  have h80 := @run_callFunc_extern Tryd.prog 80 _ ReflectliteValue.set Tryd.func80 (by kernel_rfl) (by kernel_rfl) (by kernel_rfl) (by kernel_rfl)
  have H := Asd.mk h
  have Ht := Asd.mk ht
  have Hf := Asd.mk hf
  have Ha := Asd.mk ha
  clear h ht hf ha
  go_enter Tryd.func64, Tryd.ntmps64
  go_wp2
  generalize hW : w.alloc (.cells #[.pointer (some ⟨4, 82, none⟩), .pointer (some a), .int .u64 150] 114) = W
  have HW : Asd (Below w.heap.size w W ∧ W.cell? ⟨w.heap.size, 0, none⟩ = some (.pointer (some ⟨4, 82, none⟩)) ∧ W.cell? ⟨w.heap.size, 1, none⟩ = some (.pointer (some a)) ∧ W.cell? ⟨w.heap.size, 2, none⟩ = some (.int .u64 150)) := by
    subst hW
    exact ⟨below_al (Below.refl _ _) _, by simp, by simp, by simp⟩
  clear hW
  go_loopg [0] l.length (fun kq v0 w' => ∃ l', Asd (ErrAt w k l' v0) ∧ Asd (l'.length = kq) ∧ w' = W)
  case atStart => exact ⟨l, H, ⟨rfl⟩, rfl⟩
  case round =>
    obtain ⟨l', hE, hL, rfl⟩ := hrel
    cases l' with
    | nil =>
      obtain rfl := hE.out
      have tO := T.typeOf38
      have mA := T.methodAssignableTo
      have aA := T.assignable38
      have vO := T.valueOf38 k wr
      obtain ⟨hB, hw0, hw1, hw2⟩ := HW.out
      have hal := cell_keep hB Ha.out
      have htl := cell_keep hB Ht.out
      have hfl : wr.frozen? t = false := (hB.frozen (World.block_lt_of_cell? w t Ht.out)).trans Hf.out
      have eV := T.elemV82 a t wr hal
      have htb := World.block_lt_of_cell? wr t htl
      have sV := T.set38 t ⟨wr.heap.size, 0, none⟩ k old (wr.alloc (.cells #[.int .i64 k] 38)) (by simp) ((World.cell?_alloc_lt _ _ _ htb).trans htl) ((World.frozen?_alloc_old _ _ _ (Nat.ne_of_lt htb)).trans hfl)
      have HB := Asd.mk hB
      clear hB hal htl hfl htb
      go_wp2
      go_ret
      exact ⟨rfl, _, below_al HB.out _, rfl⟩
    | cons p l' =>
      obtain ⟨b, inner, rfl, h0, h1, h2, h3⟩ := hE.out
      obtain ⟨ti, ui, rfl⟩ := h3.iface
      have H3 := Asd.mk h3
      have h2' := cell_keep HW.out.1 h2
      clear hE h0 h1 h3 h2
      have tO := T.typeOf108
      have mA := T.methodAssignableTo
      have aA := T.assignable108
      have ma := T.methodAs
      have mu := T.assertUnwrap
      have mU := T.methodUnwrap
      go_wp2
      go_roundg l'.length
      case measure => have := hL.out; simp at this; omega
      case rel => exact ⟨l', H3, ⟨rfl⟩, rfl⟩
end Go.Proofs.YtcgjdljhpcjmeaaDoor
