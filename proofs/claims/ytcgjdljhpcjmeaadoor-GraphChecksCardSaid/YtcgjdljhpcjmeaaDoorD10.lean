/- The statement marchlandlaw05.GraphChecks as a tied card: for every Graph (any number of ports, any edges, any inputs) the law returns true and the argument reads as before. No condition of its own; the four tied variables read as the program's text lays them. -/
import Derived.Test.YtcgjdljhpcjmeaaDoorD9
import Derived.Test.YtcgjdljhpcjmeaaDoorTie
import Derived.Test.YtcgjdljhpcjmeaaDoorCards
import Derived.SevenTiedAt
namespace Go.Proofs.YtcgjdljhpcjmeaaDoor
open Go

theorem graphChecks_card : Rows.GraphChecksCardSaid :=
  Claim7.holds_tied_plain_at .later [] [.data, .data, .data, .handle] true (true, "0f9e2a9632cc0abc37ad654a197f0094d66994bb3bc3fc4948b3eda9f2a1b16c") true
    graphChecks_holds (fun _ h => by cases h) (by kernel_rfl) (fun _ h => by cases h) graphChecks_row_tie rfl ⟨rfl, rfl⟩ (by kernel_rfl) rfl
    (fun f fn hf hfn => by
      obtain rfl : f = 3 := Option.some.inj ((show Tryd.prog.funcNamed "marchland/marchlandlaw05.GraphChecks" = some 3 by kernel_rfl).symm.trans hf) |>.symm
      obtain rfl : fn = Tryd.f3 := (Option.some.inj (Tryd.func3.symm.trans hfn)).symm
      exact ⟨by kernel_rfl, fun j t ht => by
        rw [Tryd.params3] at ht
        have h3 : t = 25 := by
          rcases j with _ | j
          · simpa using ht.symm
          · simp at ht
        subst h3
        exact (show Tryd.prog.wantsStandIn 25 = false by kernel_rfl)⟩)
    (by kernel_rfl)
#print axioms graphChecks_card
end Go.Proofs.YtcgjdljhpcjmeaaDoor
