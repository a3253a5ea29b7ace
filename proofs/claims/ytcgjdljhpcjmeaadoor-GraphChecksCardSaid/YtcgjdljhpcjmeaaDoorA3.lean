import Derived.Test.YtcgjdljhpcjmeaaDoorA2
namespace Go.Proofs.YtcgjdljhpcjmeaaDoor
open Go.RowKit Go.Extern.Stop Go.Stop Go.Extern

/-- errors.errorType as the program's text lays it. -/
def LaidE (w : World) : Prop := w.cell? ⟨0, 0, none⟩ = some (.iface 141 (.agg #[.pointer (some ⟨4, 28, none⟩)]))
theorem LaidE.below {w w1 : World} (h : LaidE w) (hb : Below w.heap.size w w1) : LaidE w1 := cell_keep hb h

set_option maxHeartbeats 1000000 in
set_option maxRecDepth 100000 in
theorem As_calls (k : Int) (l : List (ByteArray × Int)) (v old : Value) (t : Addr) (w : World) (hl : LaidE w) (h : ErrAt w k l v) (ht : w.cell? t = some old) (hf : w.frozen? t = false) :
    Calls Tryd.prog 37 #[v, .iface 82 (.pointer (some t))] w
      fun e w' => e = .returned (.bool true) ∧ ∃ w1, Below w.heap.size w w1 ∧ w' = w1.setCell t (.int .i64 k) := by
  have h61 := @run_callFunc_extern Tryd.prog 61 _ (fun args => ReflectliteValue.unpack (args.getD 0 (.tuple #[]))) Tryd.func61 (by kernel_rfl) (by kernel_rfl) (by kernel_rfl) (by kernel_rfl)
  have h62 := @run_callFunc_extern Tryd.prog 62 _ (ReflectliteValue.methodAny (ReflectliteValue.valueError "reflectlite.Value.Type" 0) (fun t _ _ _ => ReflectliteType.toType t)) Tryd.func62 (by kernel_rfl) (by kernel_rfl) (by kernel_rfl) (by kernel_rfl)
  have h63 := @run_callFunc_extern Tryd.prog 63 _ (ReflectliteValue.method (ReflectliteValue.valueError "reflectlite.Value.IsNil" 0) ReflectliteValue.isNil) Tryd.func63 (by kernel_rfl) (by kernel_rfl) (by kernel_rfl) (by kernel_rfl)
  have h125 := @run_callFunc_extern Tryd.prog 125 _ (ReflectliteType.abiMethod fun t => do pure (.int .u8 (← Rtype.kind t))) Tryd.func125 (by kernel_rfl) (by kernel_rfl) (by kernel_rfl) (by kernel_rfl)
  have h136 := @run_callFunc_extern Tryd.prog 136 _ (ReflectliteType.method ReflectliteType.elem) Tryd.func136 (by kernel_rfl) (by kernel_rfl) (by kernel_rfl) (by kernel_rfl)
  have h137 := @run_callFunc_extern Tryd.prog 137 _ (ReflectliteType.relation "Implements" ReflectliteType.implements_) Tryd.func137 (by kernel_rfl) (by kernel_rfl) (by kernel_rfl) (by kernel_rfl)
  have f61 := T.valueOf82
  have f62 := T.type82
  have mK := T.methodKind
  have mE := T.methodElem
  have mI := T.methodImplements
  have k82 := T.kind82
  have k38 := T.kind38
  have e82 := T.elem82
  have i38 := T.implements38
  obtain ⟨ti, ui, rfl⟩ := h.iface
  have H := Asd.mk h
  have Ht := Asd.mk ht
  have Hf := Asd.mk hf
  have Hl := Asd.mk hl
  clear h ht hf hl
  have htb := World.block_lt_of_cell? w t Ht.out
  have h0b : 0 < w.heap.size := World.block_lt_of_cell? w _ Hl.out
  have n8 := T.isNil82 ⟨w.heap.size, 0, none⟩ t ((w.alloc (.cells #[.pointer (some t)] 82)).alloc (.cells #[.pointer (some ⟨4, 82, none⟩), .pointer (some ⟨w.heap.size, 0, none⟩), .int .u64 150] 114)) (by simp)
  have hg2 : ((w.alloc (.cells #[.pointer (some t)] 82)).alloc (.cells #[.pointer (some ⟨4, 82, none⟩), .pointer (some ⟨w.heap.size, 0, none⟩), .int .u64 150] 114)).cell? ⟨0, 0, none⟩ = some (.iface 141 (.agg #[.pointer (some ⟨4, 28, none⟩)])) := by
    rw [World.cell?_alloc_lt _ _ ⟨0, 0, none⟩ (by simp), World.cell?_alloc_lt _ _ ⟨0, 0, none⟩ h0b]; exact Hl.out
  go_enter Tryd.func37, Tryd.ntmps37
  go_wp2_with fail
  have HB := Asd.mk (below_al (below_al (Below.refl w.heap.size w) (.cells #[.pointer (some t)] 82)) (.cells #[.pointer (some ⟨4, 82, none⟩), .pointer (some ⟨w.heap.size, 0, none⟩), .int .u64 150] 114))
  refine (as_calls k l _ old t ⟨w.heap.size, 0, none⟩ _ (H.out.below HB.out) (cell_keep HB.out Ht.out) ((HB.out.frozen htb).trans Hf.out) (by simp)).mono ?_
  rintro e w' ⟨rfl, w1, hb, rfl⟩
  have HB1 := Asd.mk (HB.out.trans (hb.mono HB.out.size))
  clear hb
  go_wp2
  go_ret
  exact ⟨rfl, w1, HB1.out, rfl⟩

set_option maxHeartbeats 400000 in
theorem kind_calls (k : Int) (l : List (ByteArray × Int)) (v : Value) (w : World) (hl : LaidE w) (h : ErrAt w k l v) :
    Calls Tryd.prog 11 #[v] w fun e w' => e = .returned (.int .i64 k) ∧ Below w.heap.size w w' := by
  obtain ⟨ti, ui, rfl⟩ := h.iface
  have H := Asd.mk h
  have Hl := Asd.mk hl
  clear h hl
  go_enter Tryd.func11, Tryd.ntmps11
  go_wp2_with fail
  have HB := Asd.mk (below_al (Below.refl w.heap.size w) (.cells #[.int .i64 0] 38))
  refine (As_calls k l _ (.int .i64 0) ⟨w.heap.size, 0, none⟩ _ (Hl.out.below HB.out) (H.out.below HB.out) (by simp) (by simp)).mono ?_
  rintro e w' ⟨rfl, w1, hb, rfl⟩
  have hsz : w.heap.size < w1.heap.size := by have := hb.size; simp at this; omega
  have hc : w1.cell? ⟨w.heap.size, 0, none⟩ = some (.int .i64 0) := cell_keep hb (by simp)
  have hc' : (w1.setCell ⟨w.heap.size, 0, none⟩ (.int .i64 k)).cell? ⟨w.heap.size, 0, none⟩ = some (.int .i64 k) := World.cell?_setCell_same _ _ _ hc
  have HB1 := Asd.mk (HB.out.trans (hb.mono HB.out.size))
  clear hb hc
  go_wp2
  go_ret
  exact ⟨rfl, HB1.out.setCell (Nat.le_refl _) _⟩

theorem kind_nil (w : World) : Calls Tryd.prog 11 #[.nilIface] w fun e w' => e = .returned (.int .i64 0) ∧ w = w' := by
  go_enter Tryd.func11, Tryd.ntmps11
  go_wp2
  go_ret
  exact ⟨rfl, rfl⟩
end Go.Proofs.YtcgjdljhpcjmeaaDoor
