/-
  NARROWER THAN 'FOR EVERY INPUT', by the rows' own cells (each row's printed sentence says how): JoinPairs: loops, laid · JoinTurned: loops, laid · JoinAlone: loops, laid · JoinExact: loops, laid · JoinHeld: loops, laid.
  DERIVED. THE GIVEN ROWS OF THIS SEAT. 5 by the template 'for every input the law returns true; each argument reads behind the call as it read before'; 0 by the template 'total and deterministic' (their statements: YtflckpfpgpfjlaaGreatDoorTotals.lean).
  GIVEN WITH THE SEED: the statements are not yours to turn. If you find one false, say at which input.
  Laid BY PROGRAM, IN A SANDBOX (cutbox-rows.mjs): the forced cells as the released guide's own fill.sh prints them over the translation d83353604e7636e7… (all of the seat's roots in one cut). By AI agents, Wed Nov 11 2026. No macro, syntax, notation, axiom, sorry.
-/
import Derived.Test.YtflckpfpgpfjlaaGreatDoorChecked
import GoSem.PinnedTables
import GoSem.Claim
import GoSem.ClaimJoined
import GoSem.ClaimMapViews
import Derived.JoinedTies
import Derived.KernelRfl
namespace Go.Proofs.YtflckpfpgpfjlaaGreatDoor
/- THE CELL 'sum', in the pinned program and in every row, IS THE sha256 OF THE DUMP (.gsa) THAT YtflckpfpgpfjlaaGreatDoorProg.lean LOADS. Nothing in Lean hashes anything: it is a label: what it is worth is what the hold of that sum in a sandbox is worth. -/
noncomputable def Tryz.pinned : Pinned := { name := "ytflckpfpgpfjlaagreatdoor", sum := "d83353604e7636e75fee091ae8be1f81f26d9042f52782e52e26e256cc86ba29", checked := Tryz.checked }
namespace Rows
def none {H : Type} : Left H := { results := [], args := [] }

/- WHAT THE LISTED PACKAGE-LEVEL VARIABLES READ AS WHEN THE CALL BEGINS. Each datum BY PROGRAM (the guide's laid-datum.mjs) off the statement by which the dump's own 'gosem.cut.vars' lays the variable. In a bare row this is a premise. The card (YtflckpfpgpfjlaaGreatDoorCards.lean) ties it to the program's text. -/
def laid_unicode_utf8_acceptRanges {H : Type} : DataW H := .agg [.agg [.lit (.int .u8 128), .lit (.int .u8 191)], .agg [.lit (.int .u8 160), .lit (.int .u8 191)], .agg [.lit (.int .u8 128), .lit (.int .u8 159)], .agg [.lit (.int .u8 144), .lit (.int .u8 191)], .agg [.lit (.int .u8 128), .lit (.int .u8 143)], .agg [.lit (.int .u8 0), .lit (.int .u8 0)], .agg [.lit (.int .u8 0), .lit (.int .u8 0)], .agg [.lit (.int .u8 0), .lit (.int .u8 0)], .agg [.lit (.int .u8 0), .lit (.int .u8 0)], .agg [.lit (.int .u8 0), .lit (.int .u8 0)], .agg [.lit (.int .u8 0), .lit (.int .u8 0)], .agg [.lit (.int .u8 0), .lit (.int .u8 0)], .agg [.lit (.int .u8 0), .lit (.int .u8 0)], .agg [.lit (.int .u8 0), .lit (.int .u8 0)], .agg [.lit (.int .u8 0), .lit (.int .u8 0)], .agg [.lit (.int .u8 0), .lit (.int .u8 0)]]
/-- One of Go's own tables, pinned by name: the form's constant. -/
def laid_unicode_utf8_first : DataW Unit := Go.Pinned.utf8First

/-- 'freshetlaw09.JoinPairs': WHATEVER THE INPUT: true; the input reads as it did. -/
def joinPairsSpec : ChangeSpec := { name := "joinPairs", fn := fun _ => fun
  | [d1, d2, d3] => { results := [.lit (.bool true)], args := [d1, d2, d3] }
  | _ => none }
def joinPairsRow : OpenClaim := { program := "ytflckpfpgpfjlaagreatdoor", sum := "d83353604e7636e75fee091ae8be1f81f26d9042f52782e52e26e256cc86ba29", func := "freshet/freshetlaw09.JoinPairs", spec := "joinPairs", inPlace := ["math.Float64frombits", "internal/bytealg.abigen_runtime_cmpstring", "internal/abi.NoEscape", "internal/bytealg.CountString", "internal/bytealg.IndexByteString", "internal/bytealg.IndexString", "internal/bytealg.MakeNoZero", "math/bits.Add64"], unfollowed := true, recurses := true, named := ["internal/bytealg.MaxLen", "unicode/utf8.first", "unicode/utf8.acceptRanges"], loops := true, apart := false, laid := [("unicode/utf8.acceptRanges", laid_unicode_utf8_acceptRanges), ("unicode/utf8.first", laid_unicode_utf8_first)] }
def JoinPairsSaid : Prop := joinPairsRow.holds Tryz.pinned (OpenSpec.ofChange joinPairsSpec)

/-- ITS FALSE NEIGHBOUR: 'it returns false'. Refute it at one input. -/
def joinPairsWrong : ChangeSpec := { name := "joinPairs", fn := fun _ => fun
  | [d1, d2, d3] => { results := [.lit (.bool false)], args := [d1, d2, d3] }
  | _ => none }
def JoinPairsWrongFalsely : Prop := joinPairsRow.holds Tryz.pinned (OpenSpec.ofChange joinPairsWrong)

/-- 'freshetlaw09.JoinTurned': WHATEVER THE INPUT: true; the input reads as it did. -/
def joinTurnedSpec : ChangeSpec := { name := "joinTurned", fn := fun _ => fun
  | [d1, d2, d3] => { results := [.lit (.bool true)], args := [d1, d2, d3] }
  | _ => none }
def joinTurnedRow : OpenClaim := { program := "ytflckpfpgpfjlaagreatdoor", sum := "d83353604e7636e75fee091ae8be1f81f26d9042f52782e52e26e256cc86ba29", func := "freshet/freshetlaw09.JoinTurned", spec := "joinTurned", inPlace := ["math.Float64frombits", "internal/bytealg.abigen_runtime_cmpstring", "internal/abi.NoEscape", "internal/bytealg.CountString", "internal/bytealg.IndexByteString", "internal/bytealg.IndexString", "internal/bytealg.MakeNoZero", "math/bits.Add64"], unfollowed := true, recurses := true, named := ["internal/bytealg.MaxLen", "unicode/utf8.first", "unicode/utf8.acceptRanges"], loops := true, apart := false, laid := [("unicode/utf8.acceptRanges", laid_unicode_utf8_acceptRanges), ("unicode/utf8.first", laid_unicode_utf8_first)] }
def JoinTurnedSaid : Prop := joinTurnedRow.holds Tryz.pinned (OpenSpec.ofChange joinTurnedSpec)

/-- ITS FALSE NEIGHBOUR: 'it returns false'. Refute it at one input. -/
def joinTurnedWrong : ChangeSpec := { name := "joinTurned", fn := fun _ => fun
  | [d1, d2, d3] => { results := [.lit (.bool false)], args := [d1, d2, d3] }
  | _ => none }
def JoinTurnedWrongFalsely : Prop := joinTurnedRow.holds Tryz.pinned (OpenSpec.ofChange joinTurnedWrong)

/-- 'freshetlaw09.JoinAlone': WHATEVER THE INPUT: true; the input reads as it did. -/
def joinAloneSpec : ChangeSpec := { name := "joinAlone", fn := fun _ => fun
  | [d1, d2, d3] => { results := [.lit (.bool true)], args := [d1, d2, d3] }
  | _ => none }
def joinAloneRow : OpenClaim := { program := "ytflckpfpgpfjlaagreatdoor", sum := "d83353604e7636e75fee091ae8be1f81f26d9042f52782e52e26e256cc86ba29", func := "freshet/freshetlaw09.JoinAlone", spec := "joinAlone", inPlace := ["math.Float64frombits", "internal/bytealg.abigen_runtime_cmpstring", "internal/abi.NoEscape", "internal/bytealg.CountString", "internal/bytealg.IndexByteString", "internal/bytealg.IndexString", "internal/bytealg.MakeNoZero", "math/bits.Add64"], unfollowed := true, recurses := true, named := ["internal/bytealg.MaxLen", "unicode/utf8.first", "unicode/utf8.acceptRanges"], loops := true, apart := false, laid := [("unicode/utf8.acceptRanges", laid_unicode_utf8_acceptRanges), ("unicode/utf8.first", laid_unicode_utf8_first)] }
def JoinAloneSaid : Prop := joinAloneRow.holds Tryz.pinned (OpenSpec.ofChange joinAloneSpec)

/-- ITS FALSE NEIGHBOUR: 'it returns false'. Refute it at one input. -/
def joinAloneWrong : ChangeSpec := { name := "joinAlone", fn := fun _ => fun
  | [d1, d2, d3] => { results := [.lit (.bool false)], args := [d1, d2, d3] }
  | _ => none }
def JoinAloneWrongFalsely : Prop := joinAloneRow.holds Tryz.pinned (OpenSpec.ofChange joinAloneWrong)

/-- 'freshetlaw09.JoinExact': WHATEVER THE INPUT: true; the input reads as it did. -/
def joinExactSpec : ChangeSpec := { name := "joinExact", fn := fun _ => fun
  | [d1, d2, d3] => { results := [.lit (.bool true)], args := [d1, d2, d3] }
  | _ => none }
def joinExactRow : OpenClaim := { program := "ytflckpfpgpfjlaagreatdoor", sum := "d83353604e7636e75fee091ae8be1f81f26d9042f52782e52e26e256cc86ba29", func := "freshet/freshetlaw09.JoinExact", spec := "joinExact", inPlace := ["math.Float64frombits", "internal/bytealg.abigen_runtime_cmpstring", "internal/abi.NoEscape", "internal/bytealg.CountString", "internal/bytealg.IndexByteString", "internal/bytealg.IndexString", "internal/bytealg.MakeNoZero", "math/bits.Add64", "math.Float64bits", "math/bits.Sub64"], unfollowed := true, recurses := true, named := ["internal/bytealg.MaxLen", "unicode/utf8.first", "unicode/utf8.acceptRanges"], loops := true, apart := false, laid := [("unicode/utf8.acceptRanges", laid_unicode_utf8_acceptRanges), ("unicode/utf8.first", laid_unicode_utf8_first)] }
def JoinExactSaid : Prop := joinExactRow.holds Tryz.pinned (OpenSpec.ofChange joinExactSpec)

/-- ITS FALSE NEIGHBOUR: 'it returns false'. Refute it at one input. -/
def joinExactWrong : ChangeSpec := { name := "joinExact", fn := fun _ => fun
  | [d1, d2, d3] => { results := [.lit (.bool false)], args := [d1, d2, d3] }
  | _ => none }
def JoinExactWrongFalsely : Prop := joinExactRow.holds Tryz.pinned (OpenSpec.ofChange joinExactWrong)

/-- 'freshetlaw09.JoinHeld': WHATEVER THE INPUT: true; the input reads as it did. -/
def joinHeldSpec : ChangeSpec := { name := "joinHeld", fn := fun _ => fun
  | [d1, d2, d3] => { results := [.lit (.bool true)], args := [d1, d2, d3] }
  | _ => none }
def joinHeldRow : OpenClaim := { program := "ytflckpfpgpfjlaagreatdoor", sum := "d83353604e7636e75fee091ae8be1f81f26d9042f52782e52e26e256cc86ba29", func := "freshet/freshetlaw09.JoinHeld", spec := "joinHeld", inPlace := ["math.Float64frombits", "internal/bytealg.abigen_runtime_cmpstring", "internal/abi.NoEscape", "internal/bytealg.CountString", "internal/bytealg.IndexByteString", "internal/bytealg.IndexString", "internal/bytealg.MakeNoZero", "math/bits.Add64", "math.Float64bits", "math/bits.Sub64"], unfollowed := true, recurses := true, named := ["internal/bytealg.MaxLen", "unicode/utf8.first", "unicode/utf8.acceptRanges"], loops := true, apart := false, laid := [("unicode/utf8.acceptRanges", laid_unicode_utf8_acceptRanges), ("unicode/utf8.first", laid_unicode_utf8_first)] }
def JoinHeldSaid : Prop := joinHeldRow.holds Tryz.pinned (OpenSpec.ofChange joinHeldSpec)

/-- ITS FALSE NEIGHBOUR: 'it returns false'. Refute it at one input. -/
def joinHeldWrong : ChangeSpec := { name := "joinHeld", fn := fun _ => fun
  | [d1, d2, d3] => { results := [.lit (.bool false)], args := [d1, d2, d3] }
  | _ => none }
def JoinHeldWrongFalsely : Prop := joinHeldRow.holds Tryz.pinned (OpenSpec.ofChange joinHeldWrong)

/- THE SECOND FORM. 'bulk': how many values and letters a reading holds, each counted each time it is reached (what is shared counts as often as it is met; a slice's spare places count too). A statement '..UptoSaid' is the law's where the arguments, and the package variables that the reading takes, are together of bulk at most 1048576: NARROWER than '..Said'. Prove '..Said' where nothing that the law and all that it calls make is longer than what came in: it says more and counts as full. Else prove '..UptoSaid'. A law counts once. -/
mutual
def uptoBulk {H : Type} : DataW H → Nat
  | .lit (.string bytes) => bytes.length + 1
  | .lit _ => 1
  | .nil => 1
  | .ptr d => uptoBulk d + 1
  | .slice elems spare => uptoBulkAll elems + uptoBulkAll spare + 1
  | .agg parts => uptoBulkAll parts + 1
  | .iface _ d => uptoBulk d + 1
  | .map entries => uptoBulkEntries entries + 1
  | .held _ => 1
def uptoBulkAll {H : Type} : List (DataW H) → Nat
  | [] => 0
  | d :: r => uptoBulk d + uptoBulkAll r
def uptoBulkEntries {H : Type} : List (Lit × DataW H) → Nat
  | [] => 0
  | x :: r => uptoBulkEntry x + uptoBulkEntries r
def uptoBulkEntry {H : Type} : Lit × DataW H → Nat
  | (.string bytes, d) => bytes.length + uptoBulk d + 1
  | (_, d) => uptoBulk d + 1
 end
def uptoSmall : (H : Type) → List (DataW H) → Bool := fun _ ds => decide (uptoBulkAll ds ≤ 1048576)
def OpenSpec.upto (s : _root_.Go.ChangeSpec) : _root_.Go.OpenSpec := { _root_.Go.OpenSpec.ofChange s with cond := some uptoSmall }

/-- 'freshetlaw09.JoinPairs', WHERE WHAT IT READS IS OF BULK AT MOST 1048576: true; the input reads as it did. -/
def joinPairsUptoRow : OpenClaim := { program := "ytflckpfpgpfjlaagreatdoor", sum := "d83353604e7636e75fee091ae8be1f81f26d9042f52782e52e26e256cc86ba29", func := "freshet/freshetlaw09.JoinPairs", spec := "joinPairs", inPlace := ["math.Float64frombits", "internal/bytealg.abigen_runtime_cmpstring", "internal/abi.NoEscape", "internal/bytealg.CountString", "internal/bytealg.IndexByteString", "internal/bytealg.IndexString", "internal/bytealg.MakeNoZero", "math/bits.Add64"], unfollowed := true, recurses := true, named := ["internal/bytealg.MaxLen", "unicode/utf8.first", "unicode/utf8.acceptRanges"], loops := true, apart := false, laid := [("unicode/utf8.acceptRanges", laid_unicode_utf8_acceptRanges), ("unicode/utf8.first", laid_unicode_utf8_first)], narrowed := true }
def JoinPairsUptoSaid : Prop := joinPairsUptoRow.holds Tryz.pinned (OpenSpec.upto joinPairsSpec)

/-- 'freshetlaw09.JoinTurned', WHERE WHAT IT READS IS OF BULK AT MOST 1048576: true; the input reads as it did. -/
def joinTurnedUptoRow : OpenClaim := { program := "ytflckpfpgpfjlaagreatdoor", sum := "d83353604e7636e75fee091ae8be1f81f26d9042f52782e52e26e256cc86ba29", func := "freshet/freshetlaw09.JoinTurned", spec := "joinTurned", inPlace := ["math.Float64frombits", "internal/bytealg.abigen_runtime_cmpstring", "internal/abi.NoEscape", "internal/bytealg.CountString", "internal/bytealg.IndexByteString", "internal/bytealg.IndexString", "internal/bytealg.MakeNoZero", "math/bits.Add64"], unfollowed := true, recurses := true, named := ["internal/bytealg.MaxLen", "unicode/utf8.first", "unicode/utf8.acceptRanges"], loops := true, apart := false, laid := [("unicode/utf8.acceptRanges", laid_unicode_utf8_acceptRanges), ("unicode/utf8.first", laid_unicode_utf8_first)], narrowed := true }
def JoinTurnedUptoSaid : Prop := joinTurnedUptoRow.holds Tryz.pinned (OpenSpec.upto joinTurnedSpec)

/-- 'freshetlaw09.JoinAlone', WHERE WHAT IT READS IS OF BULK AT MOST 1048576: true; the input reads as it did. -/
def joinAloneUptoRow : OpenClaim := { program := "ytflckpfpgpfjlaagreatdoor", sum := "d83353604e7636e75fee091ae8be1f81f26d9042f52782e52e26e256cc86ba29", func := "freshet/freshetlaw09.JoinAlone", spec := "joinAlone", inPlace := ["math.Float64frombits", "internal/bytealg.abigen_runtime_cmpstring", "internal/abi.NoEscape", "internal/bytealg.CountString", "internal/bytealg.IndexByteString", "internal/bytealg.IndexString", "internal/bytealg.MakeNoZero", "math/bits.Add64"], unfollowed := true, recurses := true, named := ["internal/bytealg.MaxLen", "unicode/utf8.first", "unicode/utf8.acceptRanges"], loops := true, apart := false, laid := [("unicode/utf8.acceptRanges", laid_unicode_utf8_acceptRanges), ("unicode/utf8.first", laid_unicode_utf8_first)], narrowed := true }
def JoinAloneUptoSaid : Prop := joinAloneUptoRow.holds Tryz.pinned (OpenSpec.upto joinAloneSpec)

/-- 'freshetlaw09.JoinExact', WHERE WHAT IT READS IS OF BULK AT MOST 1048576: true; the input reads as it did. -/
def joinExactUptoRow : OpenClaim := { program := "ytflckpfpgpfjlaagreatdoor", sum := "d83353604e7636e75fee091ae8be1f81f26d9042f52782e52e26e256cc86ba29", func := "freshet/freshetlaw09.JoinExact", spec := "joinExact", inPlace := ["math.Float64frombits", "internal/bytealg.abigen_runtime_cmpstring", "internal/abi.NoEscape", "internal/bytealg.CountString", "internal/bytealg.IndexByteString", "internal/bytealg.IndexString", "internal/bytealg.MakeNoZero", "math/bits.Add64", "math.Float64bits", "math/bits.Sub64"], unfollowed := true, recurses := true, named := ["internal/bytealg.MaxLen", "unicode/utf8.first", "unicode/utf8.acceptRanges"], loops := true, apart := false, laid := [("unicode/utf8.acceptRanges", laid_unicode_utf8_acceptRanges), ("unicode/utf8.first", laid_unicode_utf8_first)], narrowed := true }
def JoinExactUptoSaid : Prop := joinExactUptoRow.holds Tryz.pinned (OpenSpec.upto joinExactSpec)

/-- 'freshetlaw09.JoinHeld', WHERE WHAT IT READS IS OF BULK AT MOST 1048576: true; the input reads as it did. -/
def joinHeldUptoRow : OpenClaim := { program := "ytflckpfpgpfjlaagreatdoor", sum := "d83353604e7636e75fee091ae8be1f81f26d9042f52782e52e26e256cc86ba29", func := "freshet/freshetlaw09.JoinHeld", spec := "joinHeld", inPlace := ["math.Float64frombits", "internal/bytealg.abigen_runtime_cmpstring", "internal/abi.NoEscape", "internal/bytealg.CountString", "internal/bytealg.IndexByteString", "internal/bytealg.IndexString", "internal/bytealg.MakeNoZero", "math/bits.Add64", "math.Float64bits", "math/bits.Sub64"], unfollowed := true, recurses := true, named := ["internal/bytealg.MaxLen", "unicode/utf8.first", "unicode/utf8.acceptRanges"], loops := true, apart := false, laid := [("unicode/utf8.acceptRanges", laid_unicode_utf8_acceptRanges), ("unicode/utf8.first", laid_unicode_utf8_first)], narrowed := true }
def JoinHeldUptoSaid : Prop := joinHeldUptoRow.holds Tryz.pinned (OpenSpec.upto joinHeldSpec)

end Rows
end Go.Proofs.YtflckpfpgpfjlaaGreatDoor
