/-
  NARROWER THAN 'FOR EVERY INPUT', by the rows' own cells (each row's printed sentence says how): OutboxOrder: laid · ClockAdds: laid · DirtyArgs: laid · ClockArgs: laid · ClockRoom: laid · ClockSteps: laid · RootsActs: laid · ViewActs: laid.
  DERIVED. THE GIVEN ROWS OF THIS SEAT. 8 by the template 'for every input the law returns true; each argument reads behind the call as it read before'; 0 by the template 'total and deterministic' (their statements: YtekpbjiahlnknaaDoorTotals.lean).
  GIVEN WITH THE SEED: the statements are not yours to turn. If you find one false, say at which input.
  Laid BY PROGRAM, IN A SANDBOX (cutbox-rows.mjs): the forced cells as the released guide's own fill.sh prints them over the translation d1b836a7d24131b7… (all of the seat's roots in one cut). By AI agents, Wed Nov 11 2026. No macro, syntax, notation, axiom, sorry.
-/
import Derived.Test.YtekpbjiahlnknaaDoorChecked
import GoSem.Claim
import GoSem.ClaimJoined
import GoSem.ClaimMapViews
import Derived.JoinedTies
import Derived.KernelRfl
namespace Go.Proofs.YtekpbjiahlnknaaDoor
/- THE CELL 'sum', in the pinned program and in every row, IS THE sha256 OF THE DUMP (.gsa) THAT YtekpbjiahlnknaaDoorProg.lean LOADS. Nothing in Lean hashes anything: it is a label: what it is worth is what the hold of that sum in a sandbox is worth. -/
noncomputable def Tryd.pinned : Pinned := { name := "ytekpbjiahlnknaadoor", sum := "d1b836a7d24131b7473608ee663ec3e6425c9cacbaf2af9e3d071cc91a5e5a63", checked := Tryd.checked }
namespace Rows
def none {H : Type} : Left H := { results := [], args := [] }

/- WHAT THE LISTED PACKAGE-LEVEL VARIABLES READ AS WHEN THE CALL BEGINS. Each datum BY PROGRAM (the guide's laid-datum.mjs) off the statement by which the dump's own 'gosem.cut.vars' lays the variable. In a bare row this is a premise. The card (YtekpbjiahlnknaaDoorCards.lean) ties it to the program's text. -/
def laid_errors_errorType {H : Type} : DataW H := .iface "internal/reflectlite.rtype" (.agg [.ptr (.lit (.string [101, 114, 114, 111, 114]))])
def laid_math_bits_deBruijn64tab {H : Type} : DataW H := .agg [.lit (.int .u8 0), .lit (.int .u8 1), .lit (.int .u8 56), .lit (.int .u8 2), .lit (.int .u8 57), .lit (.int .u8 49), .lit (.int .u8 28), .lit (.int .u8 3), .lit (.int .u8 61), .lit (.int .u8 58), .lit (.int .u8 42), .lit (.int .u8 50), .lit (.int .u8 38), .lit (.int .u8 29), .lit (.int .u8 17), .lit (.int .u8 4), .lit (.int .u8 62), .lit (.int .u8 47), .lit (.int .u8 59), .lit (.int .u8 36), .lit (.int .u8 45), .lit (.int .u8 43), .lit (.int .u8 51), .lit (.int .u8 22), .lit (.int .u8 53), .lit (.int .u8 39), .lit (.int .u8 33), .lit (.int .u8 30), .lit (.int .u8 24), .lit (.int .u8 18), .lit (.int .u8 12), .lit (.int .u8 5), .lit (.int .u8 63), .lit (.int .u8 55), .lit (.int .u8 48), .lit (.int .u8 27), .lit (.int .u8 60), .lit (.int .u8 41), .lit (.int .u8 37), .lit (.int .u8 16), .lit (.int .u8 46), .lit (.int .u8 35), .lit (.int .u8 44), .lit (.int .u8 21), .lit (.int .u8 52), .lit (.int .u8 32), .lit (.int .u8 23), .lit (.int .u8 11), .lit (.int .u8 54), .lit (.int .u8 26), .lit (.int .u8 40), .lit (.int .u8 15), .lit (.int .u8 34), .lit (.int .u8 20), .lit (.int .u8 31), .lit (.int .u8 10), .lit (.int .u8 25), .lit (.int .u8 14), .lit (.int .u8 19), .lit (.int .u8 9), .lit (.int .u8 13), .lit (.int .u8 8), .lit (.int .u8 7), .lit (.int .u8 6)]

/-- 'belvederelaw20.OutboxOrder': WHATEVER THE INPUT: true; the input reads as it did. -/
def outboxOrderSpec : ChangeSpec := { name := "outboxOrder", fn := fun _ => fun
  | [d1, d2, d3] => { results := [.lit (.bool true)], args := [d1, d2, d3] }
  | _ => none }
def outboxOrderRow : OpenClaim := { program := "ytekpbjiahlnknaadoor", sum := "d1b836a7d24131b7473608ee663ec3e6425c9cacbaf2af9e3d071cc91a5e5a63", func := "belvedere/belvederelaw20.OutboxOrder", spec := "outboxOrder", inPlace := ["internal/reflectlite.TypeOf", "internal/reflectlite.ValueOf", "(internal/reflectlite.Value).Type", "(internal/reflectlite.Value).IsNil", "(internal/reflectlite.Value).Elem", "(internal/reflectlite.Value).Set"], unfollowed := true, recurses := true, named := ["errors.errorType"], plainKeys := false, apart := false, laid := [("errors.errorType", laid_errors_errorType)] }
def OutboxOrderSaid : Prop := outboxOrderRow.holds Tryd.pinned (OpenSpec.ofChange outboxOrderSpec)

/-- ITS FALSE NEIGHBOUR: 'it returns false'. Refute it at one input. -/
def outboxOrderWrong : ChangeSpec := { name := "outboxOrder", fn := fun _ => fun
  | [d1, d2, d3] => { results := [.lit (.bool false)], args := [d1, d2, d3] }
  | _ => none }
def OutboxOrderWrongFalsely : Prop := outboxOrderRow.holds Tryd.pinned (OpenSpec.ofChange outboxOrderWrong)

/-- 'belvederelaw11.ClockAdds': WHATEVER THE INPUT: true; the input reads as it did. -/
def clockAddsSpec : ChangeSpec := { name := "clockAdds", fn := fun _ => fun
  | [d1, d2, d3] => { results := [.lit (.bool true)], args := [d1, d2, d3] }
  | _ => none }
def clockAddsRow : OpenClaim := { program := "ytekpbjiahlnknaadoor", sum := "d1b836a7d24131b7473608ee663ec3e6425c9cacbaf2af9e3d071cc91a5e5a63", func := "belvedere/belvederelaw11.ClockAdds", spec := "clockAdds", recurses := true, named := ["math/bits.deBruijn64tab"], plainKeys := false, apart := false, laid := [("math/bits.deBruijn64tab", laid_math_bits_deBruijn64tab)] }
def ClockAddsSaid : Prop := clockAddsRow.holds Tryd.pinned (OpenSpec.ofChange clockAddsSpec)

/-- ITS FALSE NEIGHBOUR: 'it returns false'. Refute it at one input. -/
def clockAddsWrong : ChangeSpec := { name := "clockAdds", fn := fun _ => fun
  | [d1, d2, d3] => { results := [.lit (.bool false)], args := [d1, d2, d3] }
  | _ => none }
def ClockAddsWrongFalsely : Prop := clockAddsRow.holds Tryd.pinned (OpenSpec.ofChange clockAddsWrong)

/-- 'belvederelaw16.DirtyArgs': WHATEVER THE INPUT: true; the input reads as it did. -/
def dirtyArgsSpec : ChangeSpec := { name := "dirtyArgs", fn := fun _ => fun
  | [d1, d2, d3] => { results := [.lit (.bool true)], args := [d1, d2, d3] }
  | _ => none }
def dirtyArgsRow : OpenClaim := { program := "ytekpbjiahlnknaadoor", sum := "d1b836a7d24131b7473608ee663ec3e6425c9cacbaf2af9e3d071cc91a5e5a63", func := "belvedere/belvederelaw16.DirtyArgs", spec := "dirtyArgs", inPlace := ["internal/reflectlite.ValueOf", "(internal/reflectlite.Value).Type", "(internal/reflectlite.Value).IsNil", "internal/reflectlite.TypeOf", "(internal/reflectlite.Value).Elem", "(internal/reflectlite.Value).Set"], unfollowed := true, recurses := true, named := ["errors.errorType"], plainKeys := false, apart := false, laid := [("errors.errorType", laid_errors_errorType)] }
def DirtyArgsSaid : Prop := dirtyArgsRow.holds Tryd.pinned (OpenSpec.ofChange dirtyArgsSpec)

/-- ITS FALSE NEIGHBOUR: 'it returns false'. Refute it at one input. -/
def dirtyArgsWrong : ChangeSpec := { name := "dirtyArgs", fn := fun _ => fun
  | [d1, d2, d3] => { results := [.lit (.bool false)], args := [d1, d2, d3] }
  | _ => none }
def DirtyArgsWrongFalsely : Prop := dirtyArgsRow.holds Tryd.pinned (OpenSpec.ofChange dirtyArgsWrong)

/-- 'belvederelaw11.ClockArgs': WHATEVER THE INPUT: true; the input reads as it did. -/
def clockArgsSpec : ChangeSpec := { name := "clockArgs", fn := fun _ => fun
  | [d1, d2, d3] => { results := [.lit (.bool true)], args := [d1, d2, d3] }
  | _ => none }
def clockArgsRow : OpenClaim := { program := "ytekpbjiahlnknaadoor", sum := "d1b836a7d24131b7473608ee663ec3e6425c9cacbaf2af9e3d071cc91a5e5a63", func := "belvedere/belvederelaw11.ClockArgs", spec := "clockArgs", inPlace := ["internal/reflectlite.TypeOf"], unfollowed := true, recurses := true, named := ["math/bits.deBruijn64tab"], plainKeys := false, apart := false, laid := [("math/bits.deBruijn64tab", laid_math_bits_deBruijn64tab)] }
def ClockArgsSaid : Prop := clockArgsRow.holds Tryd.pinned (OpenSpec.ofChange clockArgsSpec)

/-- ITS FALSE NEIGHBOUR: 'it returns false'. Refute it at one input. -/
def clockArgsWrong : ChangeSpec := { name := "clockArgs", fn := fun _ => fun
  | [d1, d2, d3] => { results := [.lit (.bool false)], args := [d1, d2, d3] }
  | _ => none }
def ClockArgsWrongFalsely : Prop := clockArgsRow.holds Tryd.pinned (OpenSpec.ofChange clockArgsWrong)

/-- 'belvederelaw11.ClockRoom': WHATEVER THE INPUT: true; the input reads as it did. -/
def clockRoomSpec : ChangeSpec := { name := "clockRoom", fn := fun _ => fun
  | [d1, d2, d3] => { results := [.lit (.bool true)], args := [d1, d2, d3] }
  | _ => none }
def clockRoomRow : OpenClaim := { program := "ytekpbjiahlnknaadoor", sum := "d1b836a7d24131b7473608ee663ec3e6425c9cacbaf2af9e3d071cc91a5e5a63", func := "belvedere/belvederelaw11.ClockRoom", spec := "clockRoom", inPlace := ["internal/reflectlite.TypeOf"], unfollowed := true, recurses := true, named := ["math/bits.deBruijn64tab"], plainKeys := false, apart := false, laid := [("math/bits.deBruijn64tab", laid_math_bits_deBruijn64tab)] }
def ClockRoomSaid : Prop := clockRoomRow.holds Tryd.pinned (OpenSpec.ofChange clockRoomSpec)

/-- ITS FALSE NEIGHBOUR: 'it returns false'. Refute it at one input. -/
def clockRoomWrong : ChangeSpec := { name := "clockRoom", fn := fun _ => fun
  | [d1, d2, d3] => { results := [.lit (.bool false)], args := [d1, d2, d3] }
  | _ => none }
def ClockRoomWrongFalsely : Prop := clockRoomRow.holds Tryd.pinned (OpenSpec.ofChange clockRoomWrong)

/-- 'belvederelaw11.ClockSteps': WHATEVER THE INPUT: true; the input reads as it did. -/
def clockStepsSpec : ChangeSpec := { name := "clockSteps", fn := fun _ => fun
  | [d1, d2] => { results := [.lit (.bool true)], args := [d1, d2] }
  | _ => none }
def clockStepsRow : OpenClaim := { program := "ytekpbjiahlnknaadoor", sum := "d1b836a7d24131b7473608ee663ec3e6425c9cacbaf2af9e3d071cc91a5e5a63", func := "belvedere/belvederelaw11.ClockSteps", spec := "clockSteps", inPlace := ["internal/reflectlite.TypeOf"], unfollowed := true, recurses := true, named := ["math/bits.deBruijn64tab"], plainKeys := false, apart := false, laid := [("math/bits.deBruijn64tab", laid_math_bits_deBruijn64tab)] }
def ClockStepsSaid : Prop := clockStepsRow.holds Tryd.pinned (OpenSpec.ofChange clockStepsSpec)

/-- ITS FALSE NEIGHBOUR: 'it returns false'. Refute it at one input. -/
def clockStepsWrong : ChangeSpec := { name := "clockSteps", fn := fun _ => fun
  | [d1, d2] => { results := [.lit (.bool false)], args := [d1, d2] }
  | _ => none }
def ClockStepsWrongFalsely : Prop := clockStepsRow.holds Tryd.pinned (OpenSpec.ofChange clockStepsWrong)

/-- 'belvederelaw12.RootsActs': WHATEVER THE INPUT: true; the input reads as it did. -/
def rootsActsSpec : ChangeSpec := { name := "rootsActs", fn := fun _ => fun
  | [d1, d2] => { results := [.lit (.bool true)], args := [d1, d2] }
  | _ => none }
def rootsActsRow : OpenClaim := { program := "ytekpbjiahlnknaadoor", sum := "d1b836a7d24131b7473608ee663ec3e6425c9cacbaf2af9e3d071cc91a5e5a63", func := "belvedere/belvederelaw12.RootsActs", spec := "rootsActs", inPlace := ["internal/reflectlite.TypeOf", "internal/reflectlite.ValueOf", "(internal/reflectlite.Value).Type", "(internal/reflectlite.Value).IsNil", "(internal/reflectlite.Value).Elem", "(internal/reflectlite.Value).Set"], unfollowed := true, recurses := true, named := ["errors.errorType"], plainKeys := false, apart := false, laid := [("errors.errorType", laid_errors_errorType)] }
def RootsActsSaid : Prop := rootsActsRow.holds Tryd.pinned (OpenSpec.ofChange rootsActsSpec)

/-- ITS FALSE NEIGHBOUR: 'it returns false'. Refute it at one input. -/
def rootsActsWrong : ChangeSpec := { name := "rootsActs", fn := fun _ => fun
  | [d1, d2] => { results := [.lit (.bool false)], args := [d1, d2] }
  | _ => none }
def RootsActsWrongFalsely : Prop := rootsActsRow.holds Tryd.pinned (OpenSpec.ofChange rootsActsWrong)

/-- 'belvederelaw19.ViewActs': WHATEVER THE INPUT: true; the input reads as it did. -/
def viewActsSpec : ChangeSpec := { name := "viewActs", fn := fun _ => fun
  | [d1, d2] => { results := [.lit (.bool true)], args := [d1, d2] }
  | _ => none }
def viewActsRow : OpenClaim := { program := "ytekpbjiahlnknaadoor", sum := "d1b836a7d24131b7473608ee663ec3e6425c9cacbaf2af9e3d071cc91a5e5a63", func := "belvedere/belvederelaw19.ViewActs", spec := "viewActs", inPlace := ["internal/reflectlite.ValueOf", "(internal/reflectlite.Value).Type", "(internal/reflectlite.Value).IsNil", "internal/reflectlite.TypeOf", "(internal/reflectlite.Value).Elem", "(internal/reflectlite.Value).Set", "slices.overlaps[belvedere/dirty.Change]"], unfollowed := true, recurses := true, named := ["errors.errorType"], plainKeys := false, apart := false, laid := [("errors.errorType", laid_errors_errorType)] }
def ViewActsSaid : Prop := viewActsRow.holds Tryd.pinned (OpenSpec.ofChange viewActsSpec)

/-- ITS FALSE NEIGHBOUR: 'it returns false'. Refute it at one input. -/
def viewActsWrong : ChangeSpec := { name := "viewActs", fn := fun _ => fun
  | [d1, d2] => { results := [.lit (.bool false)], args := [d1, d2] }
  | _ => none }
def ViewActsWrongFalsely : Prop := viewActsRow.holds Tryd.pinned (OpenSpec.ofChange viewActsWrong)

/- THE SECOND FORM. 'bulk': how many values and letters a reading holds, each counted each time it is reached (what is shared counts as often as it is met; a slice's spare places count too). A statement '..UptoSaid' is the law's where the arguments, and the package variables that the reading takes, are together of bulk at most 1048576: NARROWER than '..Said'. Prove '..Said' where nothing that the law and all that it calls make is longer than what came in: it says more and counts as full. Else prove '..UptoSaid'. A law counts once. -/
mutual
def uptoBulk {H : Type} : DataW H → Nat
  | .lit (.string bytes) => bytes.length + 1
  | .lit _ => 1
  | .nil => 1
  | .ptr d => uptoBulk d + 1
  | .slice elems spare => uptoBulkAll elems + uptoBulkAll spare + 1
  | .agg parts => uptoBulkAll parts + 1
  | .iface _ d => uptoBulk d + 1
  | .map entries => uptoBulkEntries entries + 1
  | .held _ => 1
def uptoBulkAll {H : Type} : List (DataW H) → Nat
  | [] => 0
  | d :: r => uptoBulk d + uptoBulkAll r
def uptoBulkEntries {H : Type} : List (Lit × DataW H) → Nat
  | [] => 0
  | x :: r => uptoBulkEntry x + uptoBulkEntries r
def uptoBulkEntry {H : Type} : Lit × DataW H → Nat
  | (.string bytes, d) => bytes.length + uptoBulk d + 1
  | (_, d) => uptoBulk d + 1
 end
def uptoSmall : (H : Type) → List (DataW H) → Bool := fun _ ds => decide (uptoBulkAll ds ≤ 1048576)
def OpenSpec.upto (s : _root_.Go.ChangeSpec) : _root_.Go.OpenSpec := { _root_.Go.OpenSpec.ofChange s with cond := some uptoSmall }

/-- 'belvederelaw20.OutboxOrder', WHERE WHAT IT READS IS OF BULK AT MOST 1048576: true; the input reads as it did. -/
def outboxOrderUptoRow : OpenClaim := { program := "ytekpbjiahlnknaadoor", sum := "d1b836a7d24131b7473608ee663ec3e6425c9cacbaf2af9e3d071cc91a5e5a63", func := "belvedere/belvederelaw20.OutboxOrder", spec := "outboxOrder", inPlace := ["internal/reflectlite.TypeOf", "internal/reflectlite.ValueOf", "(internal/reflectlite.Value).Type", "(internal/reflectlite.Value).IsNil", "(internal/reflectlite.Value).Elem", "(internal/reflectlite.Value).Set"], unfollowed := true, recurses := true, named := ["errors.errorType"], plainKeys := false, apart := false, laid := [("errors.errorType", laid_errors_errorType)], narrowed := true }
def OutboxOrderUptoSaid : Prop := outboxOrderUptoRow.holds Tryd.pinned (OpenSpec.upto outboxOrderSpec)

/-- 'belvederelaw11.ClockAdds', WHERE WHAT IT READS IS OF BULK AT MOST 1048576: true; the input reads as it did. -/
def clockAddsUptoRow : OpenClaim := { program := "ytekpbjiahlnknaadoor", sum := "d1b836a7d24131b7473608ee663ec3e6425c9cacbaf2af9e3d071cc91a5e5a63", func := "belvedere/belvederelaw11.ClockAdds", spec := "clockAdds", recurses := true, named := ["math/bits.deBruijn64tab"], plainKeys := false, apart := false, laid := [("math/bits.deBruijn64tab", laid_math_bits_deBruijn64tab)], narrowed := true }
def ClockAddsUptoSaid : Prop := clockAddsUptoRow.holds Tryd.pinned (OpenSpec.upto clockAddsSpec)

/-- 'belvederelaw16.DirtyArgs', WHERE WHAT IT READS IS OF BULK AT MOST 1048576: true; the input reads as it did. -/
def dirtyArgsUptoRow : OpenClaim := { program := "ytekpbjiahlnknaadoor", sum := "d1b836a7d24131b7473608ee663ec3e6425c9cacbaf2af9e3d071cc91a5e5a63", func := "belvedere/belvederelaw16.DirtyArgs", spec := "dirtyArgs", inPlace := ["internal/reflectlite.ValueOf", "(internal/reflectlite.Value).Type", "(internal/reflectlite.Value).IsNil", "internal/reflectlite.TypeOf", "(internal/reflectlite.Value).Elem", "(internal/reflectlite.Value).Set"], unfollowed := true, recurses := true, named := ["errors.errorType"], plainKeys := false, apart := false, laid := [("errors.errorType", laid_errors_errorType)], narrowed := true }
def DirtyArgsUptoSaid : Prop := dirtyArgsUptoRow.holds Tryd.pinned (OpenSpec.upto dirtyArgsSpec)

/-- 'belvederelaw11.ClockArgs', WHERE WHAT IT READS IS OF BULK AT MOST 1048576: true; the input reads as it did. -/
def clockArgsUptoRow : OpenClaim := { program := "ytekpbjiahlnknaadoor", sum := "d1b836a7d24131b7473608ee663ec3e6425c9cacbaf2af9e3d071cc91a5e5a63", func := "belvedere/belvederelaw11.ClockArgs", spec := "clockArgs", inPlace := ["internal/reflectlite.TypeOf"], unfollowed := true, recurses := true, named := ["math/bits.deBruijn64tab"], plainKeys := false, apart := false, laid := [("math/bits.deBruijn64tab", laid_math_bits_deBruijn64tab)], narrowed := true }
def ClockArgsUptoSaid : Prop := clockArgsUptoRow.holds Tryd.pinned (OpenSpec.upto clockArgsSpec)

/-- 'belvederelaw11.ClockRoom', WHERE WHAT IT READS IS OF BULK AT MOST 1048576: true; the input reads as it did. -/
def clockRoomUptoRow : OpenClaim := { program := "ytekpbjiahlnknaadoor", sum := "d1b836a7d24131b7473608ee663ec3e6425c9cacbaf2af9e3d071cc91a5e5a63", func := "belvedere/belvederelaw11.ClockRoom", spec := "clockRoom", inPlace := ["internal/reflectlite.TypeOf"], unfollowed := true, recurses := true, named := ["math/bits.deBruijn64tab"], plainKeys := false, apart := false, laid := [("math/bits.deBruijn64tab", laid_math_bits_deBruijn64tab)], narrowed := true }
def ClockRoomUptoSaid : Prop := clockRoomUptoRow.holds Tryd.pinned (OpenSpec.upto clockRoomSpec)

/-- 'belvederelaw11.ClockSteps', WHERE WHAT IT READS IS OF BULK AT MOST 1048576: true; the input reads as it did. -/
def clockStepsUptoRow : OpenClaim := { program := "ytekpbjiahlnknaadoor", sum := "d1b836a7d24131b7473608ee663ec3e6425c9cacbaf2af9e3d071cc91a5e5a63", func := "belvedere/belvederelaw11.ClockSteps", spec := "clockSteps", inPlace := ["internal/reflectlite.TypeOf"], unfollowed := true, recurses := true, named := ["math/bits.deBruijn64tab"], plainKeys := false, apart := false, laid := [("math/bits.deBruijn64tab", laid_math_bits_deBruijn64tab)], narrowed := true }
def ClockStepsUptoSaid : Prop := clockStepsUptoRow.holds Tryd.pinned (OpenSpec.upto clockStepsSpec)

/-- 'belvederelaw12.RootsActs', WHERE WHAT IT READS IS OF BULK AT MOST 1048576: true; the input reads as it did. -/
def rootsActsUptoRow : OpenClaim := { program := "ytekpbjiahlnknaadoor", sum := "d1b836a7d24131b7473608ee663ec3e6425c9cacbaf2af9e3d071cc91a5e5a63", func := "belvedere/belvederelaw12.RootsActs", spec := "rootsActs", inPlace := ["internal/reflectlite.TypeOf", "internal/reflectlite.ValueOf", "(internal/reflectlite.Value).Type", "(internal/reflectlite.Value).IsNil", "(internal/reflectlite.Value).Elem", "(internal/reflectlite.Value).Set"], unfollowed := true, recurses := true, named := ["errors.errorType"], plainKeys := false, apart := false, laid := [("errors.errorType", laid_errors_errorType)], narrowed := true }
def RootsActsUptoSaid : Prop := rootsActsUptoRow.holds Tryd.pinned (OpenSpec.upto rootsActsSpec)

/-- 'belvederelaw19.ViewActs', WHERE WHAT IT READS IS OF BULK AT MOST 1048576: true; the input reads as it did. -/
def viewActsUptoRow : OpenClaim := { program := "ytekpbjiahlnknaadoor", sum := "d1b836a7d24131b7473608ee663ec3e6425c9cacbaf2af9e3d071cc91a5e5a63", func := "belvedere/belvederelaw19.ViewActs", spec := "viewActs", inPlace := ["internal/reflectlite.ValueOf", "(internal/reflectlite.Value).Type", "(internal/reflectlite.Value).IsNil", "internal/reflectlite.TypeOf", "(internal/reflectlite.Value).Elem", "(internal/reflectlite.Value).Set", "slices.overlaps[belvedere/dirty.Change]"], unfollowed := true, recurses := true, named := ["errors.errorType"], plainKeys := false, apart := false, laid := [("errors.errorType", laid_errors_errorType)], narrowed := true }
def ViewActsUptoSaid : Prop := viewActsUptoRow.holds Tryd.pinned (OpenSpec.upto viewActsSpec)

end Rows
end Go.Proofs.YtekpbjiahlnknaaDoor
