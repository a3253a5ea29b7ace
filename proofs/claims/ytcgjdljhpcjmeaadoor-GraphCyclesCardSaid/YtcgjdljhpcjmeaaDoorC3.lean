/- Proved: whatever the two numbers, GraphCycles returns true, and its arguments read afterwards as they read before; the four listed package variables hold what the program's own text lays (tied). No other condition. -/
import Derived.Test.YtcgjdljhpcjmeaaDoorC2
import Derived.Test.YtcgjdljhpcjmeaaDoorTie
import Derived.Test.YtcgjdljhpcjmeaaDoorCards
import Derived.SevenTiedAt
namespace Go.Proofs.YtcgjdljhpcjmeaaDoor
open Go

theorem graphCycles_card : Rows.GraphCyclesCardSaid :=
  Claim7.holds_tied_plain_at .later [] [.data, .data, .data, .handle] true (true, "0f9e2a9632cc0abc37ad654a197f0094d66994bb3bc3fc4948b3eda9f2a1b16c") true
    graphCycles_holds (fun _ h => by cases h) (by kernel_rfl) (fun _ h => by cases h) graphCycles_row_tie rfl ⟨rfl, rfl⟩ (by kernel_rfl) rfl
    (fun f fn hf hfn => by
      obtain rfl : f = 4 := Option.some.inj ((show Tryd.prog.funcNamed "marchland/marchlandlaw05.GraphCycles" = some 4 by kernel_rfl).symm.trans hf) |>.symm
      obtain rfl : fn = Tryd.f4 := (Option.some.inj (Tryd.func4.symm.trans hfn)).symm
      exact ⟨by kernel_rfl, fun j t ht => by
        rw [Tryd.params4] at ht
        have h3 : t = 3 := by
          rcases j with _ | _ | j
          · simpa using ht.symm
          · simpa using ht.symm
          · simp at ht
        subst h3
        exact (show Tryd.prog.wantsStandIn 3 = false by kernel_rfl)⟩)
    (by kernel_rfl)
end Go.Proofs.YtcgjdljhpcjmeaaDoor
