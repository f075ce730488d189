/- The card of StyxStreams. -/
import Derived.Test.YtggkebngkkddhaaDoorG2
import Derived.Test.YtggkebngkkddhaaDoorCards
import Derived.Test.YtggkebngkkddhaaDoorTie
import Derived.SevenTiedAt
namespace Go.Proofs.YtggkebngkkddhaaDoor
open Go

theorem streamsCard_holds : Rows.StyxStreamsCardSaid :=
  Claim7.holds_tied_plain_at .later [] [.mapped] true (true, "b71419dc4075b423505249ce68531b51c02b2e169ff931103a31cded73fc9cc7") false
    streams_holds (fun _ h => by cases h) (by kernel_rfl) (fun _ h => by cases h) styxStreams_row_tie rfl ⟨rfl, rfl⟩ (by kernel_rfl) rfl
    (fun f fn hf hfn => by
      obtain rfl : f = 5 := Option.some.inj ((show Tryd.prog.funcNamed "acheron/acheronlaw31.StyxStreams" = some 5 by kernel_rfl).symm.trans hf) |>.symm
      obtain rfl : fn = Tryd.f5 := (Option.some.inj (Tryd.func5.symm.trans hfn)).symm
      exact ⟨by kernel_rfl, fun j t ht => by
        rw [Tryd.params5] at ht
        have hm : t ∈ [41, 42] := by simpa using Array.mem_of_getElem? ht
        have hall : ([41, 42].all fun u => !Tryd.prog.wantsStandIn u) = true := by kernel_rfl
        exact (show Tryd.prog.wantsStandIn t = false by simpa using List.all_eq_true.1 hall t hm)⟩)
    (by kernel_rfl)
#print axioms streamsCard_holds
end Go.Proofs.YtggkebngkkddhaaDoor
