import Derived.Test.YtcgjdljhpcjmeaaDoorA3
namespace Go.Proofs.YtcgjdljhpcjmeaaDoor
open Go.RowKit Go.Extern.Stop Go.Stop Go.Extern

theorem T.eq33 (w : World) : (binOp .eql 28 (.iface 38 (.int .i64 3)) (.iface 38 (.int .i64 3))).run Tryd.prog w = .ok (.bool true) w := by kernel_rfl
theorem T.eqW3 (a : Addr) (w : World) : (binOp .eql 28 (.iface 108 (.pointer (some a))) (.iface 38 (.int .i64 3))).run Tryd.prog w = .ok (.bool false) w := by kernel_rfl
theorem T.comparable38 (w : World) : ((ReflectliteType.method fun t => do Rtype.noPackHeld "Comparable" t; (fun a => Value.bool a.comparable) <$> typeInfo t) #[.agg #[.pointer (some ⟨4, 38, none⟩)]]).run Tryd.prog w = .ok (.bool true) w := by kernel_rfl
theorem T.methodComparable (h : Value) (w : World) : (Go.method 317 141 (.agg #[h]) "Comparable").run Tryd.prog w = .ok (135, .agg #[h]) w := by kernel_rfl
theorem T.methodIs (v : Value) (w : World) : (Instr.typeAssert (.iface 108 v) 28 153 true).run Tryd.prog w = .ok (.tuple #[.nilIface, .bool false]) w :=
  run_typeAssert_lacksB Tryd.underlying153 (by kernel_rfl) (by kernel_rfl) v 28 w

set_option maxHeartbeats 1000000 in
set_option maxRecDepth 100000 in
theorem is_calls3 (l : List (ByteArray × Int)) (v : Value) (w : World) (h : ErrAt w 3 l v) :
    Calls Tryd.prog 68 #[v, .iface 38 (.int .i64 3), .bool true] w fun e w' => e = .returned (.bool true) ∧ w = w' := by
  have H := Asd.mk h
  clear h
  go_enter Tryd.func68, Tryd.ntmps68
  go_wp2
  go_loopg [0] l.length (fun kq v0 w' => ∃ l', Asd (ErrAt w 3 l' v0) ∧ Asd (l'.length = kq) ∧ w = w')
  case atStart => exact ⟨l, H, ⟨rfl⟩, rfl⟩
  case round =>
    obtain ⟨l', hE, hL, rfl⟩ := hrel
    cases l' with
    | nil =>
      obtain rfl := hE.out
      have e3 := T.eq33
      go_wp2
      go_ret
      exact ⟨rfl, rfl⟩
    | cons p l' =>
      obtain ⟨b, inner, rfl, h0, h1, h2, h3⟩ := hE.out
      obtain ⟨ti, ui, rfl⟩ := h3.iface
      have H3 := Asd.mk h3
      clear hE h0 h1 h3
      have eW := T.eqW3
      have ma := T.methodIs
      have mu := T.assertUnwrap
      have mU := T.methodUnwrap
      go_wp2
      go_roundg l'.length
      case measure => have := hL.out; simp at this; omega
      case rel => exact ⟨l', H3, ⟨rfl⟩, rfl⟩

set_option maxHeartbeats 1000000 in
set_option maxRecDepth 100000 in
theorem Is_calls3 (l : List (ByteArray × Int)) (v : Value) (w : World) (h : ErrAt w 3 l v) :
    Calls Tryd.prog 17 #[v, .int .i64 3] w fun e w' => e = .returned (.bool true) ∧ w = w' := by
  obtain ⟨ti, ui, rfl⟩ := h.iface
  have H := Asd.mk h
  clear h
  have h67 := @run_callFunc_extern Tryd.prog 67 _ ReflectliteType.typeOf Tryd.func67 (by kernel_rfl) (by kernel_rfl) (by kernel_rfl) (by kernel_rfl)
  have h135 := @run_callFunc_extern Tryd.prog 135 _ (ReflectliteType.method fun t => do Rtype.noPackHeld "Comparable" t; pure (.bool (← typeInfo t).comparable)) Tryd.func135 (by kernel_rfl) (by kernel_rfl) (by kernel_rfl) (by kernel_rfl)
  have tO := T.typeOf38
  have mC := T.methodComparable
  have c38 := T.comparable38
  have h43 : Asd (Calls Tryd.prog 43 #[.iface ti ui, .iface 38 (.int .i64 3)] w fun e w' => e = .returned (.bool true) ∧ w = w') := by
    constructor
    go_enter Tryd.func43, Tryd.ntmps43
    go_wp2_with fail
    refine (is_calls3 l _ _ H.out).mono ?_
    rintro e w' ⟨rfl, rfl⟩
    go_wp2
    go_ret
    exact ⟨rfl, rfl⟩
  go_enter Tryd.func17, Tryd.ntmps17
  go_wp2_with fail
  refine h43.out.mono ?_
  rintro e w' ⟨rfl, rfl⟩
  go_wp2
  go_ret
  exact ⟨rfl, rfl⟩
end Go.Proofs.YtcgjdljhpcjmeaaDoor
