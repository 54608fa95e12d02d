/-
  NARROWER THAN 'FOR EVERY INPUT', by the rows' own cells (each row's printed sentence says how): SpineExact: laid · SpineHeld: laid · SpineParts: laid · SpineMemory: laid · SpineSum: laid.
  DERIVED. THE GIVEN ROWS OF THIS SEAT. 5 by the template 'for every input the law returns true; each argument reads behind the call as it read before'; 0 by the template 'total and deterministic' (their statements: YtmpndmjfdijamaaGreatDoorTotals.lean).
  GIVEN WITH THE SEED: the statements are not yours to turn. If you find one false, say at which input.
  Laid BY PROGRAM, IN A SANDBOX (cutbox-rows.mjs): the forced cells as the released guide's own fill.sh prints them over the translation 395cd19e00383292… (all of the seat's roots in one cut). By AI agents, Wed Nov 11 2026. No macro, syntax, notation, axiom, sorry.
-/
import Derived.Test.YtmpndmjfdijamaaGreatDoorChecked
import GoSem.PinnedTables
import GoSem.Claim
import GoSem.ClaimJoined
import GoSem.ClaimMapViews
import Derived.JoinedTies
import Derived.KernelRfl
namespace Go.Proofs.YtmpndmjfdijamaaGreatDoor
/- THE CELL 'sum', in the pinned program and in every row, IS THE sha256 OF THE DUMP (.gsa) THAT YtmpndmjfdijamaaGreatDoorProg.lean LOADS. Nothing in Lean hashes anything: it is a label: what it is worth is what the hold of that sum in a sandbox is worth. -/
noncomputable def Tryz.pinned : Pinned := { name := "ytmpndmjfdijamaagreatdoor", sum := "395cd19e00383292ffbc2fa7fda1e7a4c6c1cb8e695445e1aa82daa9071b76b1", checked := Tryz.checked }
namespace Rows
def none {H : Type} : Left H := { results := [], args := [] }

/- WHAT THE LISTED PACKAGE-LEVEL VARIABLES READ AS WHEN THE CALL BEGINS. Each datum BY PROGRAM (the guide's laid-datum.mjs) off the statement by which the dump's own 'gosem.cut.vars' lays the variable. In a bare row this is a premise. The card (YtmpndmjfdijamaaGreatDoorCards.lean) ties it to the program's text. -/
def laid_unicode_utf8_acceptRanges {H : Type} : DataW H := .agg [.agg [.lit (.int .u8 128), .lit (.int .u8 191)], .agg [.lit (.int .u8 160), .lit (.int .u8 191)], .agg [.lit (.int .u8 128), .lit (.int .u8 159)], .agg [.lit (.int .u8 144), .lit (.int .u8 191)], .agg [.lit (.int .u8 128), .lit (.int .u8 143)], .agg [.lit (.int .u8 0), .lit (.int .u8 0)], .agg [.lit (.int .u8 0), .lit (.int .u8 0)], .agg [.lit (.int .u8 0), .lit (.int .u8 0)], .agg [.lit (.int .u8 0), .lit (.int .u8 0)], .agg [.lit (.int .u8 0), .lit (.int .u8 0)], .agg [.lit (.int .u8 0), .lit (.int .u8 0)], .agg [.lit (.int .u8 0), .lit (.int .u8 0)], .agg [.lit (.int .u8 0), .lit (.int .u8 0)], .agg [.lit (.int .u8 0), .lit (.int .u8 0)], .agg [.lit (.int .u8 0), .lit (.int .u8 0)], .agg [.lit (.int .u8 0), .lit (.int .u8 0)]]
/-- One of Go's own tables, pinned by name: the form's constant. -/
def laid_unicode_utf8_first : DataW Unit := Go.Pinned.utf8First

/-- 'freshetlaw04.SpineExact': WHATEVER THE INPUT: true; the input reads as it did. -/
def spineExactSpec : ChangeSpec := { name := "spineExact", fn := fun _ => fun
  | [d1, d2, d3] => { results := [.lit (.bool true)], args := [d1, d2, d3] }
  | _ => none }
def spineExactRow : OpenClaim := { program := "ytmpndmjfdijamaagreatdoor", sum := "395cd19e00383292ffbc2fa7fda1e7a4c6c1cb8e695445e1aa82daa9071b76b1", func := "freshet/freshetlaw04.SpineExact", spec := "spineExact", inPlace := ["math.Float64frombits", "internal/bytealg.abigen_runtime_cmpstring", "internal/abi.NoEscape", "internal/bytealg.CountString", "internal/bytealg.IndexByteString", "internal/bytealg.IndexString", "internal/bytealg.MakeNoZero"], unfollowed := true, recurses := true, named := ["internal/bytealg.MaxLen", "unicode/utf8.first", "unicode/utf8.acceptRanges"], apart := false, laid := [("unicode/utf8.acceptRanges", laid_unicode_utf8_acceptRanges), ("unicode/utf8.first", laid_unicode_utf8_first)] }
def SpineExactSaid : Prop := spineExactRow.holds Tryz.pinned (OpenSpec.ofChange spineExactSpec)

/-- ITS FALSE NEIGHBOUR: 'it returns false'. Refute it at one input. -/
def spineExactWrong : ChangeSpec := { name := "spineExact", fn := fun _ => fun
  | [d1, d2, d3] => { results := [.lit (.bool false)], args := [d1, d2, d3] }
  | _ => none }
def SpineExactWrongFalsely : Prop := spineExactRow.holds Tryz.pinned (OpenSpec.ofChange spineExactWrong)

/-- 'freshetlaw04.SpineHeld': WHATEVER THE INPUT: true; the input reads as it did. -/
def spineHeldSpec : ChangeSpec := { name := "spineHeld", fn := fun _ => fun
  | [d1, d2] => { results := [.lit (.bool true)], args := [d1, d2] }
  | _ => none }
def spineHeldRow : OpenClaim := { program := "ytmpndmjfdijamaagreatdoor", sum := "395cd19e00383292ffbc2fa7fda1e7a4c6c1cb8e695445e1aa82daa9071b76b1", func := "freshet/freshetlaw04.SpineHeld", spec := "spineHeld", inPlace := ["math.Float64frombits", "internal/bytealg.abigen_runtime_cmpstring", "internal/abi.NoEscape", "internal/bytealg.CountString", "internal/bytealg.IndexByteString", "internal/bytealg.IndexString", "internal/bytealg.MakeNoZero"], unfollowed := true, recurses := true, named := ["internal/bytealg.MaxLen", "unicode/utf8.first", "unicode/utf8.acceptRanges"], apart := false, laid := [("unicode/utf8.acceptRanges", laid_unicode_utf8_acceptRanges), ("unicode/utf8.first", laid_unicode_utf8_first)] }
def SpineHeldSaid : Prop := spineHeldRow.holds Tryz.pinned (OpenSpec.ofChange spineHeldSpec)

/-- ITS FALSE NEIGHBOUR: 'it returns false'. Refute it at one input. -/
def spineHeldWrong : ChangeSpec := { name := "spineHeld", fn := fun _ => fun
  | [d1, d2] => { results := [.lit (.bool false)], args := [d1, d2] }
  | _ => none }
def SpineHeldWrongFalsely : Prop := spineHeldRow.holds Tryz.pinned (OpenSpec.ofChange spineHeldWrong)

/-- 'freshetlaw04.SpineParts': WHATEVER THE INPUT: true; the input reads as it did. -/
def spinePartsSpec : ChangeSpec := { name := "spineParts", fn := fun _ => fun
  | [d] => { results := [.lit (.bool true)], args := [d] }
  | _ => none }
def spinePartsRow : OpenClaim := { program := "ytmpndmjfdijamaagreatdoor", sum := "395cd19e00383292ffbc2fa7fda1e7a4c6c1cb8e695445e1aa82daa9071b76b1", func := "freshet/freshetlaw04.SpineParts", spec := "spineParts", inPlace := ["math.Float64frombits", "internal/bytealg.abigen_runtime_cmpstring", "internal/abi.NoEscape", "internal/bytealg.CountString", "internal/bytealg.IndexByteString", "internal/bytealg.IndexString", "internal/bytealg.MakeNoZero"], unfollowed := true, recurses := true, named := ["internal/bytealg.MaxLen", "unicode/utf8.first", "unicode/utf8.acceptRanges"], apart := false, laid := [("unicode/utf8.acceptRanges", laid_unicode_utf8_acceptRanges), ("unicode/utf8.first", laid_unicode_utf8_first)] }
def SpinePartsSaid : Prop := spinePartsRow.holds Tryz.pinned (OpenSpec.ofChange spinePartsSpec)

/-- ITS FALSE NEIGHBOUR: 'it returns false'. Refute it at one input. -/
def spinePartsWrong : ChangeSpec := { name := "spineParts", fn := fun _ => fun
  | [d] => { results := [.lit (.bool false)], args := [d] }
  | _ => none }
def SpinePartsWrongFalsely : Prop := spinePartsRow.holds Tryz.pinned (OpenSpec.ofChange spinePartsWrong)

/-- 'freshetlaw04.SpineMemory': WHATEVER THE INPUT: true; the input reads as it did. -/
def spineMemorySpec : ChangeSpec := { name := "spineMemory", fn := fun _ => fun
  | [d] => { results := [.lit (.bool true)], args := [d] }
  | _ => none }
def spineMemoryRow : OpenClaim := { program := "ytmpndmjfdijamaagreatdoor", sum := "395cd19e00383292ffbc2fa7fda1e7a4c6c1cb8e695445e1aa82daa9071b76b1", func := "freshet/freshetlaw04.SpineMemory", spec := "spineMemory", inPlace := ["math.Float64frombits", "internal/bytealg.abigen_runtime_cmpstring", "internal/abi.NoEscape", "internal/bytealg.CountString", "internal/bytealg.IndexByteString", "internal/bytealg.IndexString", "internal/bytealg.MakeNoZero"], unfollowed := true, recurses := true, named := ["internal/bytealg.MaxLen", "unicode/utf8.first", "unicode/utf8.acceptRanges"], apart := false, laid := [("unicode/utf8.acceptRanges", laid_unicode_utf8_acceptRanges), ("unicode/utf8.first", laid_unicode_utf8_first)] }
def SpineMemorySaid : Prop := spineMemoryRow.holds Tryz.pinned (OpenSpec.ofChange spineMemorySpec)

/-- ITS FALSE NEIGHBOUR: 'it returns false'. Refute it at one input. -/
def spineMemoryWrong : ChangeSpec := { name := "spineMemory", fn := fun _ => fun
  | [d] => { results := [.lit (.bool false)], args := [d] }
  | _ => none }
def SpineMemoryWrongFalsely : Prop := spineMemoryRow.holds Tryz.pinned (OpenSpec.ofChange spineMemoryWrong)

/-- 'freshetlaw04.SpineSum': WHATEVER THE INPUT: true; the input reads as it did. -/
def spineSumSpec : ChangeSpec := { name := "spineSum", fn := fun _ => fun
  | [d1, d2] => { results := [.lit (.bool true)], args := [d1, d2] }
  | _ => none }
def spineSumRow : OpenClaim := { program := "ytmpndmjfdijamaagreatdoor", sum := "395cd19e00383292ffbc2fa7fda1e7a4c6c1cb8e695445e1aa82daa9071b76b1", func := "freshet/freshetlaw04.SpineSum", spec := "spineSum", inPlace := ["math.Float64frombits", "internal/bytealg.abigen_runtime_cmpstring", "internal/abi.NoEscape", "internal/bytealg.CountString", "internal/bytealg.IndexByteString", "internal/bytealg.IndexString", "internal/bytealg.MakeNoZero", "math/bits.Add64"], unfollowed := true, recurses := true, named := ["internal/bytealg.MaxLen", "unicode/utf8.first", "unicode/utf8.acceptRanges"], apart := false, laid := [("unicode/utf8.acceptRanges", laid_unicode_utf8_acceptRanges), ("unicode/utf8.first", laid_unicode_utf8_first)] }
def SpineSumSaid : Prop := spineSumRow.holds Tryz.pinned (OpenSpec.ofChange spineSumSpec)

/-- ITS FALSE NEIGHBOUR: 'it returns false'. Refute it at one input. -/
def spineSumWrong : ChangeSpec := { name := "spineSum", fn := fun _ => fun
  | [d1, d2] => { results := [.lit (.bool false)], args := [d1, d2] }
  | _ => none }
def SpineSumWrongFalsely : Prop := spineSumRow.holds Tryz.pinned (OpenSpec.ofChange spineSumWrong)

/- THE SECOND FORM. 'bulk': how many values and letters a reading holds, each counted each time it is reached (what is shared counts as often as it is met; a slice's spare places count too). A statement '..UptoSaid' is the law's where the arguments, and the package variables that the reading takes, are together of bulk at most 1048576: NARROWER than '..Said'. Prove '..Said' where nothing that the law and all that it calls make is longer than what came in: it says more and counts as full. Else prove '..UptoSaid'. A law counts once. -/
mutual
def uptoBulk {H : Type} : DataW H → Nat
  | .lit (.string bytes) => bytes.length + 1
  | .lit _ => 1
  | .nil => 1
  | .ptr d => uptoBulk d + 1
  | .slice elems spare => uptoBulkAll elems + uptoBulkAll spare + 1
  | .agg parts => uptoBulkAll parts + 1
  | .iface _ d => uptoBulk d + 1
  | .map entries => uptoBulkEntries entries + 1
  | .held _ => 1
def uptoBulkAll {H : Type} : List (DataW H) → Nat
  | [] => 0
  | d :: r => uptoBulk d + uptoBulkAll r
def uptoBulkEntries {H : Type} : List (Lit × DataW H) → Nat
  | [] => 0
  | x :: r => uptoBulkEntry x + uptoBulkEntries r
def uptoBulkEntry {H : Type} : Lit × DataW H → Nat
  | (.string bytes, d) => bytes.length + uptoBulk d + 1
  | (_, d) => uptoBulk d + 1
 end
def uptoSmall : (H : Type) → List (DataW H) → Bool := fun _ ds => decide (uptoBulkAll ds ≤ 1048576)
def OpenSpec.upto (s : _root_.Go.ChangeSpec) : _root_.Go.OpenSpec := { _root_.Go.OpenSpec.ofChange s with cond := some uptoSmall }

/-- 'freshetlaw04.SpineExact', WHERE WHAT IT READS IS OF BULK AT MOST 1048576: true; the input reads as it did. -/
def spineExactUptoRow : OpenClaim := { program := "ytmpndmjfdijamaagreatdoor", sum := "395cd19e00383292ffbc2fa7fda1e7a4c6c1cb8e695445e1aa82daa9071b76b1", func := "freshet/freshetlaw04.SpineExact", spec := "spineExact", inPlace := ["math.Float64frombits", "internal/bytealg.abigen_runtime_cmpstring", "internal/abi.NoEscape", "internal/bytealg.CountString", "internal/bytealg.IndexByteString", "internal/bytealg.IndexString", "internal/bytealg.MakeNoZero"], unfollowed := true, recurses := true, named := ["internal/bytealg.MaxLen", "unicode/utf8.first", "unicode/utf8.acceptRanges"], apart := false, laid := [("unicode/utf8.acceptRanges", laid_unicode_utf8_acceptRanges), ("unicode/utf8.first", laid_unicode_utf8_first)], narrowed := true }
def SpineExactUptoSaid : Prop := spineExactUptoRow.holds Tryz.pinned (OpenSpec.upto spineExactSpec)

/-- 'freshetlaw04.SpineHeld', WHERE WHAT IT READS IS OF BULK AT MOST 1048576: true; the input reads as it did. -/
def spineHeldUptoRow : OpenClaim := { program := "ytmpndmjfdijamaagreatdoor", sum := "395cd19e00383292ffbc2fa7fda1e7a4c6c1cb8e695445e1aa82daa9071b76b1", func := "freshet/freshetlaw04.SpineHeld", spec := "spineHeld", inPlace := ["math.Float64frombits", "internal/bytealg.abigen_runtime_cmpstring", "internal/abi.NoEscape", "internal/bytealg.CountString", "internal/bytealg.IndexByteString", "internal/bytealg.IndexString", "internal/bytealg.MakeNoZero"], unfollowed := true, recurses := true, named := ["internal/bytealg.MaxLen", "unicode/utf8.first", "unicode/utf8.acceptRanges"], apart := false, laid := [("unicode/utf8.acceptRanges", laid_unicode_utf8_acceptRanges), ("unicode/utf8.first", laid_unicode_utf8_first)], narrowed := true }
def SpineHeldUptoSaid : Prop := spineHeldUptoRow.holds Tryz.pinned (OpenSpec.upto spineHeldSpec)

/-- 'freshetlaw04.SpineParts', WHERE WHAT IT READS IS OF BULK AT MOST 1048576: true; the input reads as it did. -/
def spinePartsUptoRow : OpenClaim := { program := "ytmpndmjfdijamaagreatdoor", sum := "395cd19e00383292ffbc2fa7fda1e7a4c6c1cb8e695445e1aa82daa9071b76b1", func := "freshet/freshetlaw04.SpineParts", spec := "spineParts", inPlace := ["math.Float64frombits", "internal/bytealg.abigen_runtime_cmpstring", "internal/abi.NoEscape", "internal/bytealg.CountString", "internal/bytealg.IndexByteString", "internal/bytealg.IndexString", "internal/bytealg.MakeNoZero"], unfollowed := true, recurses := true, named := ["internal/bytealg.MaxLen", "unicode/utf8.first", "unicode/utf8.acceptRanges"], apart := false, laid := [("unicode/utf8.acceptRanges", laid_unicode_utf8_acceptRanges), ("unicode/utf8.first", laid_unicode_utf8_first)], narrowed := true }
def SpinePartsUptoSaid : Prop := spinePartsUptoRow.holds Tryz.pinned (OpenSpec.upto spinePartsSpec)

/-- 'freshetlaw04.SpineMemory', WHERE WHAT IT READS IS OF BULK AT MOST 1048576: true; the input reads as it did. -/
def spineMemoryUptoRow : OpenClaim := { program := "ytmpndmjfdijamaagreatdoor", sum := "395cd19e00383292ffbc2fa7fda1e7a4c6c1cb8e695445e1aa82daa9071b76b1", func := "freshet/freshetlaw04.SpineMemory", spec := "spineMemory", inPlace := ["math.Float64frombits", "internal/bytealg.abigen_runtime_cmpstring", "internal/abi.NoEscape", "internal/bytealg.CountString", "internal/bytealg.IndexByteString", "internal/bytealg.IndexString", "internal/bytealg.MakeNoZero"], unfollowed := true, recurses := true, named := ["internal/bytealg.MaxLen", "unicode/utf8.first", "unicode/utf8.acceptRanges"], apart := false, laid := [("unicode/utf8.acceptRanges", laid_unicode_utf8_acceptRanges), ("unicode/utf8.first", laid_unicode_utf8_first)], narrowed := true }
def SpineMemoryUptoSaid : Prop := spineMemoryUptoRow.holds Tryz.pinned (OpenSpec.upto spineMemorySpec)

/-- 'freshetlaw04.SpineSum', WHERE WHAT IT READS IS OF BULK AT MOST 1048576: true; the input reads as it did. -/
def spineSumUptoRow : OpenClaim := { program := "ytmpndmjfdijamaagreatdoor", sum := "395cd19e00383292ffbc2fa7fda1e7a4c6c1cb8e695445e1aa82daa9071b76b1", func := "freshet/freshetlaw04.SpineSum", spec := "spineSum", inPlace := ["math.Float64frombits", "internal/bytealg.abigen_runtime_cmpstring", "internal/abi.NoEscape", "internal/bytealg.CountString", "internal/bytealg.IndexByteString", "internal/bytealg.IndexString", "internal/bytealg.MakeNoZero", "math/bits.Add64"], unfollowed := true, recurses := true, named := ["internal/bytealg.MaxLen", "unicode/utf8.first", "unicode/utf8.acceptRanges"], apart := false, laid := [("unicode/utf8.acceptRanges", laid_unicode_utf8_acceptRanges), ("unicode/utf8.first", laid_unicode_utf8_first)], narrowed := true }
def SpineSumUptoSaid : Prop := spineSumUptoRow.holds Tryz.pinned (OpenSpec.upto spineSumSpec)

end Rows
end Go.Proofs.YtmpndmjfdijamaaGreatDoor
