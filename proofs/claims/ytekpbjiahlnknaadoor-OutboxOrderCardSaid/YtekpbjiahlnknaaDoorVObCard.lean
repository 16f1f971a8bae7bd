/- The tied card of the law OutboxOrder: for every row of frames, any credit and any size of pieces it returns true. Its conditions: those of the given card. -/
import Derived.Test.YtekpbjiahlnknaaDoorVObRow
import Derived.Test.YtekpbjiahlnknaaDoorCards
import Derived.Test.YtekpbjiahlnknaaDoorTie
import Derived.SevenTiedAt
namespace Go.Proofs.YtekpbjiahlnknaaDoor
open Go
theorem outboxOrder_holds : Rows.OutboxOrderCardSaid :=
  Claim7.holds_tied_plain_at .later [] [.handle] true (true, "5b5b043f38ce7e416c8e0fdb9b71a88dd61a0c8cf93e9ad6cefb66067c84a322") true
    ob_row (fun _ h => by cases h) (by kernel_rfl) (fun _ h => by cases h) outboxOrder_row_tie rfl ⟨rfl, rfl⟩ (by kernel_rfl) rfl
    (fun f fn hf hfn => by
      obtain rfl : f = 3 := Option.some.inj ((show Tryd.prog.funcNamed "belvedere/belvederelaw20.OutboxOrder" = some 3 by kernel_rfl).symm.trans hf) |>.symm
      obtain rfl : fn = Tryd.f3 := (Option.some.inj (Tryd.func3.symm.trans hfn)).symm
      exact ⟨by kernel_rfl, fun j t ht => by
        rw [Tryd.params3] at ht
        have h3 : t = 22 ∨ t = 5 := by
          rcases j with _ | _ | _ | j
          · exact .inl (by simpa using ht.symm)
          · exact .inr (by simpa using ht.symm)
          · exact .inr (by simpa using ht.symm)
          · simp at ht
        rcases h3 with rfl | rfl
        · exact (show Tryd.prog.wantsStandIn 22 = false by kernel_rfl)
        · exact (show Tryd.prog.wantsStandIn 5 = false by kernel_rfl)⟩)
    (by kernel_rfl)
#print axioms outboxOrder_holds
end Go.Proofs.YtekpbjiahlnknaaDoor
