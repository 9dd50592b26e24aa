/-
  NARROWER THAN 'FOR EVERY INPUT', by the rows' own cells (each row's printed sentence says how): NormValid: laid · NormPlans: laid · NormRefused: laid · NormSmall: laid · NormDual: laid · NormOwn: laid · NormSelects: laid.
  DERIVED. THE GIVEN ROWS OF THIS SEAT. 7 by the template 'for every input the law returns true; each argument reads behind the call as it read before'; 0 by the template 'total and deterministic' (their statements: YtldnkeackphilaaGreatDoorTotals.lean).
  GIVEN WITH THE SEED: the statements are not yours to turn. If you find one false, say at which input.
  Laid BY PROGRAM, IN A SANDBOX (cutbox-rows.mjs): the forced cells as the released guide's own fill.sh prints them over the translation c25e24ba0b54387f… (all of the seat's roots in one cut). By AI agents, Wed Nov 11 2026. No macro, syntax, notation, axiom, sorry.
-/
import Derived.Test.YtldnkeackphilaaGreatDoorChecked
import GoSem.PinnedTables
import GoSem.Claim
import GoSem.ClaimJoined
import GoSem.ClaimMapViews
import Derived.JoinedTies
import Derived.KernelRfl
namespace Go.Proofs.YtldnkeackphilaaGreatDoor
/- THE CELL 'sum', in the pinned program and in every row, IS THE sha256 OF THE DUMP (.gsa) THAT YtldnkeackphilaaGreatDoorProg.lean LOADS. Nothing in Lean hashes anything: it is a label: what it is worth is what the hold of that sum in a sandbox is worth. -/
noncomputable def Tryz.pinned : Pinned := { name := "ytldnkeackphilaagreatdoor", sum := "c25e24ba0b54387f545c4bc9961620bee6e6dafad1ac55dac6e54ef9f80f1e86", checked := Tryz.checked }
namespace Rows
def none {H : Type} : Left H := { results := [], args := [] }

/- WHAT THE LISTED PACKAGE-LEVEL VARIABLES READ AS WHEN THE CALL BEGINS. Each datum BY PROGRAM (the guide's laid-datum.mjs) off the statement by which the dump's own 'gosem.cut.vars' lays the variable. In a bare row this is a premise. The card (YtldnkeackphilaaGreatDoorCards.lean) ties it to the program's text. -/
def laid_unicode_utf8_acceptRanges {H : Type} : DataW H := .agg [.agg [.lit (.int .u8 128), .lit (.int .u8 191)], .agg [.lit (.int .u8 160), .lit (.int .u8 191)], .agg [.lit (.int .u8 128), .lit (.int .u8 159)], .agg [.lit (.int .u8 144), .lit (.int .u8 191)], .agg [.lit (.int .u8 128), .lit (.int .u8 143)], .agg [.lit (.int .u8 0), .lit (.int .u8 0)], .agg [.lit (.int .u8 0), .lit (.int .u8 0)], .agg [.lit (.int .u8 0), .lit (.int .u8 0)], .agg [.lit (.int .u8 0), .lit (.int .u8 0)], .agg [.lit (.int .u8 0), .lit (.int .u8 0)], .agg [.lit (.int .u8 0), .lit (.int .u8 0)], .agg [.lit (.int .u8 0), .lit (.int .u8 0)], .agg [.lit (.int .u8 0), .lit (.int .u8 0)], .agg [.lit (.int .u8 0), .lit (.int .u8 0)], .agg [.lit (.int .u8 0), .lit (.int .u8 0)], .agg [.lit (.int .u8 0), .lit (.int .u8 0)]]
def laid_errors_errorType {H : Type} : DataW H := .iface "internal/reflectlite.rtype" (.agg [.ptr (.lit (.string [101, 114, 114, 111, 114]))])
/-- One of Go's own tables, pinned by name: the form's constant. -/
def laid_unicode_utf8_first : DataW Unit := Go.Pinned.utf8First

/-- 'berthlaw16.NormValid': WHATEVER THE INPUT: true; the input reads as it did. -/
def normValidSpec : ChangeSpec := { name := "normValid", fn := fun _ => fun
  | [d] => { results := [.lit (.bool true)], args := [d] }
  | _ => none }
def normValidRow : OpenClaim := { program := "ytldnkeackphilaagreatdoor", sum := "c25e24ba0b54387f545c4bc9961620bee6e6dafad1ac55dac6e54ef9f80f1e86", func := "berth/berthlaw16.NormValid", spec := "normValid", inPlace := ["internal/reflectlite.ValueOf", "(internal/reflectlite.Value).Type", "(internal/reflectlite.Value).IsNil", "internal/reflectlite.TypeOf", "(internal/reflectlite.Value).Elem", "(internal/reflectlite.Value).Set", "internal/bytealg.IndexByteString", "internal/bytealg.IndexString", "internal/bytealg.CountString"], unfollowed := true, recurses := true, named := ["errors.errorType", "internal/bytealg.MaxLen", "unicode/utf8.first", "unicode/utf8.acceptRanges"], apart := false, laid := [("unicode/utf8.acceptRanges", laid_unicode_utf8_acceptRanges), ("errors.errorType", laid_errors_errorType), ("unicode/utf8.first", laid_unicode_utf8_first)] }
def NormValidSaid : Prop := normValidRow.holds Tryz.pinned (OpenSpec.ofChange normValidSpec)

/-- ITS FALSE NEIGHBOUR: 'it returns false'. Refute it at one input. -/
def normValidWrong : ChangeSpec := { name := "normValid", fn := fun _ => fun
  | [d] => { results := [.lit (.bool false)], args := [d] }
  | _ => none }
def NormValidWrongFalsely : Prop := normValidRow.holds Tryz.pinned (OpenSpec.ofChange normValidWrong)

/-- 'berthlaw16.NormPlans': WHATEVER THE INPUT: true; the input reads as it did. -/
def normPlansSpec : ChangeSpec := { name := "normPlans", fn := fun _ => fun
  | [d1, d2] => { results := [.lit (.bool true)], args := [d1, d2] }
  | _ => none }
def normPlansRow : OpenClaim := { program := "ytldnkeackphilaagreatdoor", sum := "c25e24ba0b54387f545c4bc9961620bee6e6dafad1ac55dac6e54ef9f80f1e86", func := "berth/berthlaw16.NormPlans", spec := "normPlans", inPlace := ["internal/reflectlite.ValueOf", "(internal/reflectlite.Value).Type", "(internal/reflectlite.Value).IsNil", "internal/reflectlite.TypeOf", "(internal/reflectlite.Value).Elem", "(internal/reflectlite.Value).Set", "internal/bytealg.IndexByteString", "internal/bytealg.IndexString", "internal/bytealg.CountString"], unfollowed := true, recurses := true, named := ["errors.errorType", "internal/bytealg.MaxLen", "unicode/utf8.first", "unicode/utf8.acceptRanges"], apart := false, laid := [("unicode/utf8.acceptRanges", laid_unicode_utf8_acceptRanges), ("errors.errorType", laid_errors_errorType), ("unicode/utf8.first", laid_unicode_utf8_first)] }
def NormPlansSaid : Prop := normPlansRow.holds Tryz.pinned (OpenSpec.ofChange normPlansSpec)

/-- ITS FALSE NEIGHBOUR: 'it returns false'. Refute it at one input. -/
def normPlansWrong : ChangeSpec := { name := "normPlans", fn := fun _ => fun
  | [d1, d2] => { results := [.lit (.bool false)], args := [d1, d2] }
  | _ => none }
def NormPlansWrongFalsely : Prop := normPlansRow.holds Tryz.pinned (OpenSpec.ofChange normPlansWrong)

/-- 'berthlaw16.NormRefused': WHATEVER THE INPUT: true; the input reads as it did. -/
def normRefusedSpec : ChangeSpec := { name := "normRefused", fn := fun _ => fun
  | [d1, d2] => { results := [.lit (.bool true)], args := [d1, d2] }
  | _ => none }
def normRefusedRow : OpenClaim := { program := "ytldnkeackphilaagreatdoor", sum := "c25e24ba0b54387f545c4bc9961620bee6e6dafad1ac55dac6e54ef9f80f1e86", func := "berth/berthlaw16.NormRefused", spec := "normRefused", inPlace := ["internal/reflectlite.ValueOf", "(internal/reflectlite.Value).Type", "(internal/reflectlite.Value).IsNil", "internal/reflectlite.TypeOf", "(internal/reflectlite.Value).Elem", "(internal/reflectlite.Value).Set", "internal/bytealg.IndexByteString", "internal/bytealg.IndexString", "internal/bytealg.CountString"], unfollowed := true, recurses := true, named := ["errors.errorType", "internal/bytealg.MaxLen", "unicode/utf8.first", "unicode/utf8.acceptRanges"], apart := false, laid := [("unicode/utf8.acceptRanges", laid_unicode_utf8_acceptRanges), ("errors.errorType", laid_errors_errorType), ("unicode/utf8.first", laid_unicode_utf8_first)] }
def NormRefusedSaid : Prop := normRefusedRow.holds Tryz.pinned (OpenSpec.ofChange normRefusedSpec)

/-- ITS FALSE NEIGHBOUR: 'it returns false'. Refute it at one input. -/
def normRefusedWrong : ChangeSpec := { name := "normRefused", fn := fun _ => fun
  | [d1, d2] => { results := [.lit (.bool false)], args := [d1, d2] }
  | _ => none }
def NormRefusedWrongFalsely : Prop := normRefusedRow.holds Tryz.pinned (OpenSpec.ofChange normRefusedWrong)

/-- 'berthlaw16.NormSmall': WHATEVER THE INPUT: true; the input reads as it did. -/
def normSmallSpec : ChangeSpec := { name := "normSmall", fn := fun _ => fun
  | [d1, d2] => { results := [.lit (.bool true)], args := [d1, d2] }
  | _ => none }
def normSmallRow : OpenClaim := { program := "ytldnkeackphilaagreatdoor", sum := "c25e24ba0b54387f545c4bc9961620bee6e6dafad1ac55dac6e54ef9f80f1e86", func := "berth/berthlaw16.NormSmall", spec := "normSmall", inPlace := ["internal/reflectlite.ValueOf", "(internal/reflectlite.Value).Type", "(internal/reflectlite.Value).IsNil", "internal/reflectlite.TypeOf", "(internal/reflectlite.Value).Elem", "(internal/reflectlite.Value).Set", "internal/bytealg.IndexByteString", "internal/bytealg.IndexString", "internal/bytealg.CountString"], unfollowed := true, recurses := true, named := ["errors.errorType", "internal/bytealg.MaxLen", "unicode/utf8.first", "unicode/utf8.acceptRanges"], apart := false, laid := [("unicode/utf8.acceptRanges", laid_unicode_utf8_acceptRanges), ("errors.errorType", laid_errors_errorType), ("unicode/utf8.first", laid_unicode_utf8_first)] }
def NormSmallSaid : Prop := normSmallRow.holds Tryz.pinned (OpenSpec.ofChange normSmallSpec)

/-- ITS FALSE NEIGHBOUR: 'it returns false'. Refute it at one input. -/
def normSmallWrong : ChangeSpec := { name := "normSmall", fn := fun _ => fun
  | [d1, d2] => { results := [.lit (.bool false)], args := [d1, d2] }
  | _ => none }
def NormSmallWrongFalsely : Prop := normSmallRow.holds Tryz.pinned (OpenSpec.ofChange normSmallWrong)

/-- 'berthlaw16.NormDual': WHATEVER THE INPUT: true; the input reads as it did. -/
def normDualSpec : ChangeSpec := { name := "normDual", fn := fun _ => fun
  | [d1, d2] => { results := [.lit (.bool true)], args := [d1, d2] }
  | _ => none }
def normDualRow : OpenClaim := { program := "ytldnkeackphilaagreatdoor", sum := "c25e24ba0b54387f545c4bc9961620bee6e6dafad1ac55dac6e54ef9f80f1e86", func := "berth/berthlaw16.NormDual", spec := "normDual", inPlace := ["internal/reflectlite.ValueOf", "(internal/reflectlite.Value).Type", "(internal/reflectlite.Value).IsNil", "internal/reflectlite.TypeOf", "(internal/reflectlite.Value).Elem", "(internal/reflectlite.Value).Set", "internal/bytealg.IndexByteString", "internal/bytealg.IndexString", "internal/bytealg.CountString"], unfollowed := true, recurses := true, named := ["errors.errorType", "internal/bytealg.MaxLen", "unicode/utf8.first", "unicode/utf8.acceptRanges"], apart := false, laid := [("unicode/utf8.acceptRanges", laid_unicode_utf8_acceptRanges), ("errors.errorType", laid_errors_errorType), ("unicode/utf8.first", laid_unicode_utf8_first)] }
def NormDualSaid : Prop := normDualRow.holds Tryz.pinned (OpenSpec.ofChange normDualSpec)

/-- ITS FALSE NEIGHBOUR: 'it returns false'. Refute it at one input. -/
def normDualWrong : ChangeSpec := { name := "normDual", fn := fun _ => fun
  | [d1, d2] => { results := [.lit (.bool false)], args := [d1, d2] }
  | _ => none }
def NormDualWrongFalsely : Prop := normDualRow.holds Tryz.pinned (OpenSpec.ofChange normDualWrong)

/-- 'berthlaw16.NormOwn': WHATEVER THE INPUT: true; the input reads as it did. -/
def normOwnSpec : ChangeSpec := { name := "normOwn", fn := fun _ => fun
  | [d] => { results := [.lit (.bool true)], args := [d] }
  | _ => none }
def normOwnRow : OpenClaim := { program := "ytldnkeackphilaagreatdoor", sum := "c25e24ba0b54387f545c4bc9961620bee6e6dafad1ac55dac6e54ef9f80f1e86", func := "berth/berthlaw16.NormOwn", spec := "normOwn", inPlace := ["internal/reflectlite.ValueOf", "(internal/reflectlite.Value).Type", "(internal/reflectlite.Value).IsNil", "internal/reflectlite.TypeOf", "(internal/reflectlite.Value).Elem", "(internal/reflectlite.Value).Set", "internal/bytealg.IndexByteString", "internal/bytealg.IndexString", "internal/bytealg.CountString"], unfollowed := true, recurses := true, named := ["errors.errorType", "internal/bytealg.MaxLen", "unicode/utf8.first", "unicode/utf8.acceptRanges"], apart := false, laid := [("unicode/utf8.acceptRanges", laid_unicode_utf8_acceptRanges), ("errors.errorType", laid_errors_errorType), ("unicode/utf8.first", laid_unicode_utf8_first)] }
def NormOwnSaid : Prop := normOwnRow.holds Tryz.pinned (OpenSpec.ofChange normOwnSpec)

/-- ITS FALSE NEIGHBOUR: 'it returns false'. Refute it at one input. -/
def normOwnWrong : ChangeSpec := { name := "normOwn", fn := fun _ => fun
  | [d] => { results := [.lit (.bool false)], args := [d] }
  | _ => none }
def NormOwnWrongFalsely : Prop := normOwnRow.holds Tryz.pinned (OpenSpec.ofChange normOwnWrong)

/-- 'berthlaw16.NormSelects': WHATEVER THE INPUT: true; the input reads as it did. -/
def normSelectsSpec : ChangeSpec := { name := "normSelects", fn := fun _ => fun
  | [d1, d2, d3] => { results := [.lit (.bool true)], args := [d1, d2, d3] }
  | _ => none }
def normSelectsRow : OpenClaim := { program := "ytldnkeackphilaagreatdoor", sum := "c25e24ba0b54387f545c4bc9961620bee6e6dafad1ac55dac6e54ef9f80f1e86", func := "berth/berthlaw16.NormSelects", spec := "normSelects", inPlace := ["internal/reflectlite.ValueOf", "(internal/reflectlite.Value).Type", "(internal/reflectlite.Value).IsNil", "internal/reflectlite.TypeOf", "(internal/reflectlite.Value).Elem", "(internal/reflectlite.Value).Set", "internal/bytealg.IndexByteString", "internal/bytealg.IndexString", "internal/bytealg.CountString"], unfollowed := true, recurses := true, named := ["errors.errorType", "internal/bytealg.MaxLen", "unicode/utf8.first", "unicode/utf8.acceptRanges"], apart := false, laid := [("unicode/utf8.acceptRanges", laid_unicode_utf8_acceptRanges), ("errors.errorType", laid_errors_errorType), ("unicode/utf8.first", laid_unicode_utf8_first)] }
def NormSelectsSaid : Prop := normSelectsRow.holds Tryz.pinned (OpenSpec.ofChange normSelectsSpec)

/-- ITS FALSE NEIGHBOUR: 'it returns false'. Refute it at one input. -/
def normSelectsWrong : ChangeSpec := { name := "normSelects", fn := fun _ => fun
  | [d1, d2, d3] => { results := [.lit (.bool false)], args := [d1, d2, d3] }
  | _ => none }
def NormSelectsWrongFalsely : Prop := normSelectsRow.holds Tryz.pinned (OpenSpec.ofChange normSelectsWrong)

/- THE SECOND FORM. 'bulk': how many values and letters a reading holds, each counted each time it is reached (what is shared counts as often as it is met; a slice's spare places count too). A statement '..UptoSaid' is the law's where the arguments, and the package variables that the reading takes, are together of bulk at most 1048576: NARROWER than '..Said'. Prove '..Said' where nothing that the law and all that it calls make is longer than what came in: it says more and counts as full. Else prove '..UptoSaid'. A law counts once. -/
mutual
def uptoBulk {H : Type} : DataW H → Nat
  | .lit (.string bytes) => bytes.length + 1
  | .lit _ => 1
  | .nil => 1
  | .ptr d => uptoBulk d + 1
  | .slice elems spare => uptoBulkAll elems + uptoBulkAll spare + 1
  | .agg parts => uptoBulkAll parts + 1
  | .iface _ d => uptoBulk d + 1
  | .map entries => uptoBulkEntries entries + 1
  | .held _ => 1
def uptoBulkAll {H : Type} : List (DataW H) → Nat
  | [] => 0
  | d :: r => uptoBulk d + uptoBulkAll r
def uptoBulkEntries {H : Type} : List (Lit × DataW H) → Nat
  | [] => 0
  | x :: r => uptoBulkEntry x + uptoBulkEntries r
def uptoBulkEntry {H : Type} : Lit × DataW H → Nat
  | (.string bytes, d) => bytes.length + uptoBulk d + 1
  | (_, d) => uptoBulk d + 1
 end
def uptoSmall : (H : Type) → List (DataW H) → Bool := fun _ ds => decide (uptoBulkAll ds ≤ 1048576)
def OpenSpec.upto (s : _root_.Go.ChangeSpec) : _root_.Go.OpenSpec := { _root_.Go.OpenSpec.ofChange s with cond := some uptoSmall }

/-- 'berthlaw16.NormValid', WHERE WHAT IT READS IS OF BULK AT MOST 1048576: true; the input reads as it did. -/
def normValidUptoRow : OpenClaim := { program := "ytldnkeackphilaagreatdoor", sum := "c25e24ba0b54387f545c4bc9961620bee6e6dafad1ac55dac6e54ef9f80f1e86", func := "berth/berthlaw16.NormValid", spec := "normValid", inPlace := ["internal/reflectlite.ValueOf", "(internal/reflectlite.Value).Type", "(internal/reflectlite.Value).IsNil", "internal/reflectlite.TypeOf", "(internal/reflectlite.Value).Elem", "(internal/reflectlite.Value).Set", "internal/bytealg.IndexByteString", "internal/bytealg.IndexString", "internal/bytealg.CountString"], unfollowed := true, recurses := true, named := ["errors.errorType", "internal/bytealg.MaxLen", "unicode/utf8.first", "unicode/utf8.acceptRanges"], apart := false, laid := [("unicode/utf8.acceptRanges", laid_unicode_utf8_acceptRanges), ("errors.errorType", laid_errors_errorType), ("unicode/utf8.first", laid_unicode_utf8_first)], narrowed := true }
def NormValidUptoSaid : Prop := normValidUptoRow.holds Tryz.pinned (OpenSpec.upto normValidSpec)

/-- 'berthlaw16.NormPlans', WHERE WHAT IT READS IS OF BULK AT MOST 1048576: true; the input reads as it did. -/
def normPlansUptoRow : OpenClaim := { program := "ytldnkeackphilaagreatdoor", sum := "c25e24ba0b54387f545c4bc9961620bee6e6dafad1ac55dac6e54ef9f80f1e86", func := "berth/berthlaw16.NormPlans", spec := "normPlans", inPlace := ["internal/reflectlite.ValueOf", "(internal/reflectlite.Value).Type", "(internal/reflectlite.Value).IsNil", "internal/reflectlite.TypeOf", "(internal/reflectlite.Value).Elem", "(internal/reflectlite.Value).Set", "internal/bytealg.IndexByteString", "internal/bytealg.IndexString", "internal/bytealg.CountString"], unfollowed := true, recurses := true, named := ["errors.errorType", "internal/bytealg.MaxLen", "unicode/utf8.first", "unicode/utf8.acceptRanges"], apart := false, laid := [("unicode/utf8.acceptRanges", laid_unicode_utf8_acceptRanges), ("errors.errorType", laid_errors_errorType), ("unicode/utf8.first", laid_unicode_utf8_first)], narrowed := true }
def NormPlansUptoSaid : Prop := normPlansUptoRow.holds Tryz.pinned (OpenSpec.upto normPlansSpec)

/-- 'berthlaw16.NormRefused', WHERE WHAT IT READS IS OF BULK AT MOST 1048576: true; the input reads as it did. -/
def normRefusedUptoRow : OpenClaim := { program := "ytldnkeackphilaagreatdoor", sum := "c25e24ba0b54387f545c4bc9961620bee6e6dafad1ac55dac6e54ef9f80f1e86", func := "berth/berthlaw16.NormRefused", spec := "normRefused", inPlace := ["internal/reflectlite.ValueOf", "(internal/reflectlite.Value).Type", "(internal/reflectlite.Value).IsNil", "internal/reflectlite.TypeOf", "(internal/reflectlite.Value).Elem", "(internal/reflectlite.Value).Set", "internal/bytealg.IndexByteString", "internal/bytealg.IndexString", "internal/bytealg.CountString"], unfollowed := true, recurses := true, named := ["errors.errorType", "internal/bytealg.MaxLen", "unicode/utf8.first", "unicode/utf8.acceptRanges"], apart := false, laid := [("unicode/utf8.acceptRanges", laid_unicode_utf8_acceptRanges), ("errors.errorType", laid_errors_errorType), ("unicode/utf8.first", laid_unicode_utf8_first)], narrowed := true }
def NormRefusedUptoSaid : Prop := normRefusedUptoRow.holds Tryz.pinned (OpenSpec.upto normRefusedSpec)

/-- 'berthlaw16.NormSmall', WHERE WHAT IT READS IS OF BULK AT MOST 1048576: true; the input reads as it did. -/
def normSmallUptoRow : OpenClaim := { program := "ytldnkeackphilaagreatdoor", sum := "c25e24ba0b54387f545c4bc9961620bee6e6dafad1ac55dac6e54ef9f80f1e86", func := "berth/berthlaw16.NormSmall", spec := "normSmall", inPlace := ["internal/reflectlite.ValueOf", "(internal/reflectlite.Value).Type", "(internal/reflectlite.Value).IsNil", "internal/reflectlite.TypeOf", "(internal/reflectlite.Value).Elem", "(internal/reflectlite.Value).Set", "internal/bytealg.IndexByteString", "internal/bytealg.IndexString", "internal/bytealg.CountString"], unfollowed := true, recurses := true, named := ["errors.errorType", "internal/bytealg.MaxLen", "unicode/utf8.first", "unicode/utf8.acceptRanges"], apart := false, laid := [("unicode/utf8.acceptRanges", laid_unicode_utf8_acceptRanges), ("errors.errorType", laid_errors_errorType), ("unicode/utf8.first", laid_unicode_utf8_first)], narrowed := true }
def NormSmallUptoSaid : Prop := normSmallUptoRow.holds Tryz.pinned (OpenSpec.upto normSmallSpec)

/-- 'berthlaw16.NormDual', WHERE WHAT IT READS IS OF BULK AT MOST 1048576: true; the input reads as it did. -/
def normDualUptoRow : OpenClaim := { program := "ytldnkeackphilaagreatdoor", sum := "c25e24ba0b54387f545c4bc9961620bee6e6dafad1ac55dac6e54ef9f80f1e86", func := "berth/berthlaw16.NormDual", spec := "normDual", inPlace := ["internal/reflectlite.ValueOf", "(internal/reflectlite.Value).Type", "(internal/reflectlite.Value).IsNil", "internal/reflectlite.TypeOf", "(internal/reflectlite.Value).Elem", "(internal/reflectlite.Value).Set", "internal/bytealg.IndexByteString", "internal/bytealg.IndexString", "internal/bytealg.CountString"], unfollowed := true, recurses := true, named := ["errors.errorType", "internal/bytealg.MaxLen", "unicode/utf8.first", "unicode/utf8.acceptRanges"], apart := false, laid := [("unicode/utf8.acceptRanges", laid_unicode_utf8_acceptRanges), ("errors.errorType", laid_errors_errorType), ("unicode/utf8.first", laid_unicode_utf8_first)], narrowed := true }
def NormDualUptoSaid : Prop := normDualUptoRow.holds Tryz.pinned (OpenSpec.upto normDualSpec)

/-- 'berthlaw16.NormOwn', WHERE WHAT IT READS IS OF BULK AT MOST 1048576: true; the input reads as it did. -/
def normOwnUptoRow : OpenClaim := { program := "ytldnkeackphilaagreatdoor", sum := "c25e24ba0b54387f545c4bc9961620bee6e6dafad1ac55dac6e54ef9f80f1e86", func := "berth/berthlaw16.NormOwn", spec := "normOwn", inPlace := ["internal/reflectlite.ValueOf", "(internal/reflectlite.Value).Type", "(internal/reflectlite.Value).IsNil", "internal/reflectlite.TypeOf", "(internal/reflectlite.Value).Elem", "(internal/reflectlite.Value).Set", "internal/bytealg.IndexByteString", "internal/bytealg.IndexString", "internal/bytealg.CountString"], unfollowed := true, recurses := true, named := ["errors.errorType", "internal/bytealg.MaxLen", "unicode/utf8.first", "unicode/utf8.acceptRanges"], apart := false, laid := [("unicode/utf8.acceptRanges", laid_unicode_utf8_acceptRanges), ("errors.errorType", laid_errors_errorType), ("unicode/utf8.first", laid_unicode_utf8_first)], narrowed := true }
def NormOwnUptoSaid : Prop := normOwnUptoRow.holds Tryz.pinned (OpenSpec.upto normOwnSpec)

/-- 'berthlaw16.NormSelects', WHERE WHAT IT READS IS OF BULK AT MOST 1048576: true; the input reads as it did. -/
def normSelectsUptoRow : OpenClaim := { program := "ytldnkeackphilaagreatdoor", sum := "c25e24ba0b54387f545c4bc9961620bee6e6dafad1ac55dac6e54ef9f80f1e86", func := "berth/berthlaw16.NormSelects", spec := "normSelects", inPlace := ["internal/reflectlite.ValueOf", "(internal/reflectlite.Value).Type", "(internal/reflectlite.Value).IsNil", "internal/reflectlite.TypeOf", "(internal/reflectlite.Value).Elem", "(internal/reflectlite.Value).Set", "internal/bytealg.IndexByteString", "internal/bytealg.IndexString", "internal/bytealg.CountString"], unfollowed := true, recurses := true, named := ["errors.errorType", "internal/bytealg.MaxLen", "unicode/utf8.first", "unicode/utf8.acceptRanges"], apart := false, laid := [("unicode/utf8.acceptRanges", laid_unicode_utf8_acceptRanges), ("errors.errorType", laid_errors_errorType), ("unicode/utf8.first", laid_unicode_utf8_first)], narrowed := true }
def NormSelectsUptoSaid : Prop := normSelectsUptoRow.holds Tryz.pinned (OpenSpec.upto normSelectsSpec)

end Rows
end Go.Proofs.YtldnkeackphilaaGreatDoor
