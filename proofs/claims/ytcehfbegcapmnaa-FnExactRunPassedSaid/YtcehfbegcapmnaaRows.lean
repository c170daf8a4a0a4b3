/-
  No cell of these rows narrows 'for every input' (looked for: loops, veiled, ifaces, maps, wideKeys, modest, calm, conditions, laid).
  DERIVED. THE GIVEN ROWS OF THIS SEAT. 12 by the template 'for every input the law returns true; each argument reads behind the call as it read before'; 0 by the template 'total and deterministic' (their statements: YtcehfbegcapmnaaTotals.lean).
  GIVEN WITH THE SEED: the statements are not yours to turn. If you find one false, say at which input.
  Laid BY PROGRAM, IN A SANDBOX (cutbox-rows.mjs): the forced cells as the released guide's own fill.sh prints them over the translation 26dfa3590b59b78d… (all of the seat's roots in one cut). By AI agents, Wed Nov 11 2026. No macro, syntax, notation, axiom, sorry.
-/
import Derived.Test.YtcehfbegcapmnaaChecked
import GoSem.Claim
import GoSem.ClaimJoined
import GoSem.ClaimMapViews
import Derived.JoinedTies
import Derived.KernelRfl
namespace Go.Proofs.Ytcehfbegcapmnaa
/- THE CELL 'sum', in the pinned program and in every row, IS THE sha256 OF THE DUMP (.gsa) THAT YtcehfbegcapmnaaProg.lean LOADS. Nothing in Lean hashes anything: it is a label: what it is worth is what the hold of that sum in a sandbox is worth. -/
noncomputable def Try.pinned : Pinned := { name := "ytcehfbegcapmnaa", sum := "26dfa3590b59b78d1315de54d62e800163f20fc557f242c81a176127f8953031", checked := Try.checked }
namespace Rows
def none {H : Type} : Left H := { results := [], args := [] }

/-- 'laws.FnExactSubstTerm': WHATEVER THE INPUT: true; the input reads as it did. -/
def fnExactSubstTermSpec : ChangeSpec := { name := "fnExactSubstTerm", fn := fun _ => fun
  | [d1, d2, d3] => { results := [.lit (.bool true)], args := [d1, d2, d3] }
  | _ => none }
def fnExactSubstTermRow : OpenClaim := { program := "ytcehfbegcapmnaa", sum := "26dfa3590b59b78d1315de54d62e800163f20fc557f242c81a176127f8953031", func := "loop.example/g00201/laws.FnExactSubstTerm", spec := "fnExactSubstTerm", unfollowed := true, recurses := true, apart := false }
def FnExactSubstTermSaid : Prop := fnExactSubstTermRow.holds Try.pinned (OpenSpec.ofChange fnExactSubstTermSpec)

/-- ITS FALSE NEIGHBOUR: 'it returns false'. Refute it at one input. -/
def fnExactSubstTermWrong : ChangeSpec := { name := "fnExactSubstTerm", fn := fun _ => fun
  | [d1, d2, d3] => { results := [.lit (.bool false)], args := [d1, d2, d3] }
  | _ => none }
def FnExactSubstTermWrongFalsely : Prop := fnExactSubstTermRow.holds Try.pinned (OpenSpec.ofChange fnExactSubstTermWrong)

/-- 'laws.FnExactDevelopTerm': WHATEVER THE INPUT: true; the input reads as it did. -/
def fnExactDevelopTermSpec : ChangeSpec := { name := "fnExactDevelopTerm", fn := fun _ => fun
  | [d] => { results := [.lit (.bool true)], args := [d] }
  | _ => none }
def fnExactDevelopTermRow : OpenClaim := { program := "ytcehfbegcapmnaa", sum := "26dfa3590b59b78d1315de54d62e800163f20fc557f242c81a176127f8953031", func := "loop.example/g00201/laws.FnExactDevelopTerm", spec := "fnExactDevelopTerm", unfollowed := true, recurses := true, apart := false }
def FnExactDevelopTermSaid : Prop := fnExactDevelopTermRow.holds Try.pinned (OpenSpec.ofChange fnExactDevelopTermSpec)

/-- ITS FALSE NEIGHBOUR: 'it returns false'. Refute it at one input. -/
def fnExactDevelopTermWrong : ChangeSpec := { name := "fnExactDevelopTerm", fn := fun _ => fun
  | [d] => { results := [.lit (.bool false)], args := [d] }
  | _ => none }
def FnExactDevelopTermWrongFalsely : Prop := fnExactDevelopTermRow.holds Try.pinned (OpenSpec.ofChange fnExactDevelopTermWrong)

/-- 'laws.FnExactReduceAt': WHATEVER THE INPUT: true; the input reads as it did. -/
def fnExactReduceAtSpec : ChangeSpec := { name := "fnExactReduceAt", fn := fun _ => fun
  | [d1, d2] => { results := [.lit (.bool true)], args := [d1, d2] }
  | _ => none }
def fnExactReduceAtRow : OpenClaim := { program := "ytcehfbegcapmnaa", sum := "26dfa3590b59b78d1315de54d62e800163f20fc557f242c81a176127f8953031", func := "loop.example/g00201/laws.FnExactReduceAt", spec := "fnExactReduceAt", unfollowed := true, recurses := true, apart := false }
def FnExactReduceAtSaid : Prop := fnExactReduceAtRow.holds Try.pinned (OpenSpec.ofChange fnExactReduceAtSpec)

/-- ITS FALSE NEIGHBOUR: 'it returns false'. Refute it at one input. -/
def fnExactReduceAtWrong : ChangeSpec := { name := "fnExactReduceAt", fn := fun _ => fun
  | [d1, d2] => { results := [.lit (.bool false)], args := [d1, d2] }
  | _ => none }
def FnExactReduceAtWrongFalsely : Prop := fnExactReduceAtRow.holds Try.pinned (OpenSpec.ofChange fnExactReduceAtWrong)

/-- 'laws.FnExactNormalTerm': WHATEVER THE INPUT: true; the input reads as it did. -/
def fnExactNormalTermSpec : ChangeSpec := { name := "fnExactNormalTerm", fn := fun _ => fun
  | [d1, d2] => { results := [.lit (.bool true)], args := [d1, d2] }
  | _ => none }
def fnExactNormalTermRow : OpenClaim := { program := "ytcehfbegcapmnaa", sum := "26dfa3590b59b78d1315de54d62e800163f20fc557f242c81a176127f8953031", func := "loop.example/g00201/laws.FnExactNormalTerm", spec := "fnExactNormalTerm", unfollowed := true, recurses := true, apart := false }
def FnExactNormalTermSaid : Prop := fnExactNormalTermRow.holds Try.pinned (OpenSpec.ofChange fnExactNormalTermSpec)

/-- ITS FALSE NEIGHBOUR: 'it returns false'. Refute it at one input. -/
def fnExactNormalTermWrong : ChangeSpec := { name := "fnExactNormalTerm", fn := fun _ => fun
  | [d1, d2] => { results := [.lit (.bool false)], args := [d1, d2] }
  | _ => none }
def FnExactNormalTermWrongFalsely : Prop := fnExactNormalTermRow.holds Try.pinned (OpenSpec.ofChange fnExactNormalTermWrong)

/-- 'laws.FnExactIsValue': WHATEVER THE INPUT: true; the input reads as it did. -/
def fnExactIsValueSpec : ChangeSpec := { name := "fnExactIsValue", fn := fun _ => fun
  | [d] => { results := [.lit (.bool true)], args := [d] }
  | _ => none }
def fnExactIsValueRow : OpenClaim := { program := "ytcehfbegcapmnaa", sum := "26dfa3590b59b78d1315de54d62e800163f20fc557f242c81a176127f8953031", func := "loop.example/g00201/laws.FnExactIsValue", spec := "fnExactIsValue", unfollowed := true, recurses := true, apart := false }
def FnExactIsValueSaid : Prop := fnExactIsValueRow.holds Try.pinned (OpenSpec.ofChange fnExactIsValueSpec)

/-- ITS FALSE NEIGHBOUR: 'it returns false'. Refute it at one input. -/
def fnExactIsValueWrong : ChangeSpec := { name := "fnExactIsValue", fn := fun _ => fun
  | [d] => { results := [.lit (.bool false)], args := [d] }
  | _ => none }
def FnExactIsValueWrongFalsely : Prop := fnExactIsValueRow.holds Try.pinned (OpenSpec.ofChange fnExactIsValueWrong)

/-- 'laws.FnExactApplyTerm': WHATEVER THE INPUT: true; the input reads as it did. -/
def fnExactApplyTermSpec : ChangeSpec := { name := "fnExactApplyTerm", fn := fun _ => fun
  | [d1, d2] => { results := [.lit (.bool true)], args := [d1, d2] }
  | _ => none }
def fnExactApplyTermRow : OpenClaim := { program := "ytcehfbegcapmnaa", sum := "26dfa3590b59b78d1315de54d62e800163f20fc557f242c81a176127f8953031", func := "loop.example/g00201/laws.FnExactApplyTerm", spec := "fnExactApplyTerm", unfollowed := true, recurses := true, apart := false }
def FnExactApplyTermSaid : Prop := fnExactApplyTermRow.holds Try.pinned (OpenSpec.ofChange fnExactApplyTermSpec)

/-- ITS FALSE NEIGHBOUR: 'it returns false'. Refute it at one input. -/
def fnExactApplyTermWrong : ChangeSpec := { name := "fnExactApplyTerm", fn := fun _ => fun
  | [d1, d2] => { results := [.lit (.bool false)], args := [d1, d2] }
  | _ => none }
def FnExactApplyTermWrongFalsely : Prop := fnExactApplyTermRow.holds Try.pinned (OpenSpec.ofChange fnExactApplyTermWrong)

/-- 'laws.FnExactShiftTerm': WHATEVER THE INPUT: true; the input reads as it did. -/
def fnExactShiftTermSpec : ChangeSpec := { name := "fnExactShiftTerm", fn := fun _ => fun
  | [d1, d2, d3] => { results := [.lit (.bool true)], args := [d1, d2, d3] }
  | _ => none }
def fnExactShiftTermRow : OpenClaim := { program := "ytcehfbegcapmnaa", sum := "26dfa3590b59b78d1315de54d62e800163f20fc557f242c81a176127f8953031", func := "loop.example/g00201/laws.FnExactShiftTerm", spec := "fnExactShiftTerm", unfollowed := true, recurses := true, apart := false }
def FnExactShiftTermSaid : Prop := fnExactShiftTermRow.holds Try.pinned (OpenSpec.ofChange fnExactShiftTermSpec)

/-- ITS FALSE NEIGHBOUR: 'it returns false'. Refute it at one input. -/
def fnExactShiftTermWrong : ChangeSpec := { name := "fnExactShiftTerm", fn := fun _ => fun
  | [d1, d2, d3] => { results := [.lit (.bool false)], args := [d1, d2, d3] }
  | _ => none }
def FnExactShiftTermWrongFalsely : Prop := fnExactShiftTermRow.holds Try.pinned (OpenSpec.ofChange fnExactShiftTermWrong)

/-- 'laws.FnExactPassTerm': WHATEVER THE INPUT: true; the input reads as it did. -/
def fnExactPassTermSpec : ChangeSpec := { name := "fnExactPassTerm", fn := fun _ => fun
  | [d] => { results := [.lit (.bool true)], args := [d] }
  | _ => none }
def fnExactPassTermRow : OpenClaim := { program := "ytcehfbegcapmnaa", sum := "26dfa3590b59b78d1315de54d62e800163f20fc557f242c81a176127f8953031", func := "loop.example/g00201/laws.FnExactPassTerm", spec := "fnExactPassTerm", unfollowed := true, recurses := true, apart := false }
def FnExactPassTermSaid : Prop := fnExactPassTermRow.holds Try.pinned (OpenSpec.ofChange fnExactPassTermSpec)

/-- ITS FALSE NEIGHBOUR: 'it returns false'. Refute it at one input. -/
def fnExactPassTermWrong : ChangeSpec := { name := "fnExactPassTerm", fn := fun _ => fun
  | [d] => { results := [.lit (.bool false)], args := [d] }
  | _ => none }
def FnExactPassTermWrongFalsely : Prop := fnExactPassTermRow.holds Try.pinned (OpenSpec.ofChange fnExactPassTermWrong)

/-- 'laws.FnExactPassValue': WHATEVER THE INPUT: true; the input reads as it did. -/
def fnExactPassValueSpec : ChangeSpec := { name := "fnExactPassValue", fn := fun _ => fun
  | [d] => { results := [.lit (.bool true)], args := [d] }
  | _ => none }
def fnExactPassValueRow : OpenClaim := { program := "ytcehfbegcapmnaa", sum := "26dfa3590b59b78d1315de54d62e800163f20fc557f242c81a176127f8953031", func := "loop.example/g00201/laws.FnExactPassValue", spec := "fnExactPassValue", unfollowed := true, recurses := true, apart := false }
def FnExactPassValueSaid : Prop := fnExactPassValueRow.holds Try.pinned (OpenSpec.ofChange fnExactPassValueSpec)

/-- ITS FALSE NEIGHBOUR: 'it returns false'. Refute it at one input. -/
def fnExactPassValueWrong : ChangeSpec := { name := "fnExactPassValue", fn := fun _ => fun
  | [d] => { results := [.lit (.bool false)], args := [d] }
  | _ => none }
def FnExactPassValueWrongFalsely : Prop := fnExactPassValueRow.holds Try.pinned (OpenSpec.ofChange fnExactPassValueWrong)

/-- 'laws.FnExactHeadTerm': WHATEVER THE INPUT: true; the input reads as it did. -/
def fnExactHeadTermSpec : ChangeSpec := { name := "fnExactHeadTerm", fn := fun _ => fun
  | [d1, d2] => { results := [.lit (.bool true)], args := [d1, d2] }
  | _ => none }
def fnExactHeadTermRow : OpenClaim := { program := "ytcehfbegcapmnaa", sum := "26dfa3590b59b78d1315de54d62e800163f20fc557f242c81a176127f8953031", func := "loop.example/g00201/laws.FnExactHeadTerm", spec := "fnExactHeadTerm", unfollowed := true, recurses := true, apart := false }
def FnExactHeadTermSaid : Prop := fnExactHeadTermRow.holds Try.pinned (OpenSpec.ofChange fnExactHeadTermSpec)

/-- ITS FALSE NEIGHBOUR: 'it returns false'. Refute it at one input. -/
def fnExactHeadTermWrong : ChangeSpec := { name := "fnExactHeadTerm", fn := fun _ => fun
  | [d1, d2] => { results := [.lit (.bool false)], args := [d1, d2] }
  | _ => none }
def FnExactHeadTermWrongFalsely : Prop := fnExactHeadTermRow.holds Try.pinned (OpenSpec.ofChange fnExactHeadTermWrong)

/-- 'laws.FnExactValueTerm': WHATEVER THE INPUT: true; the input reads as it did. -/
def fnExactValueTermSpec : ChangeSpec := { name := "fnExactValueTerm", fn := fun _ => fun
  | [d1, d2] => { results := [.lit (.bool true)], args := [d1, d2] }
  | _ => none }
def fnExactValueTermRow : OpenClaim := { program := "ytcehfbegcapmnaa", sum := "26dfa3590b59b78d1315de54d62e800163f20fc557f242c81a176127f8953031", func := "loop.example/g00201/laws.FnExactValueTerm", spec := "fnExactValueTerm", unfollowed := true, recurses := true, apart := false }
def FnExactValueTermSaid : Prop := fnExactValueTermRow.holds Try.pinned (OpenSpec.ofChange fnExactValueTermSpec)

/-- ITS FALSE NEIGHBOUR: 'it returns false'. Refute it at one input. -/
def fnExactValueTermWrong : ChangeSpec := { name := "fnExactValueTerm", fn := fun _ => fun
  | [d1, d2] => { results := [.lit (.bool false)], args := [d1, d2] }
  | _ => none }
def FnExactValueTermWrongFalsely : Prop := fnExactValueTermRow.holds Try.pinned (OpenSpec.ofChange fnExactValueTermWrong)

/-- 'laws.FnExactRunPassed': WHATEVER THE INPUT: true; the input reads as it did. -/
def fnExactRunPassedSpec : ChangeSpec := { name := "fnExactRunPassed", fn := fun _ => fun
  | [d1, d2] => { results := [.lit (.bool true)], args := [d1, d2] }
  | _ => none }
def fnExactRunPassedRow : OpenClaim := { program := "ytcehfbegcapmnaa", sum := "26dfa3590b59b78d1315de54d62e800163f20fc557f242c81a176127f8953031", func := "loop.example/g00201/laws.FnExactRunPassed", spec := "fnExactRunPassed", unfollowed := true, recurses := true, apart := false }
def FnExactRunPassedSaid : Prop := fnExactRunPassedRow.holds Try.pinned (OpenSpec.ofChange fnExactRunPassedSpec)

/-- ITS FALSE NEIGHBOUR: 'it returns false'. Refute it at one input. -/
def fnExactRunPassedWrong : ChangeSpec := { name := "fnExactRunPassed", fn := fun _ => fun
  | [d1, d2] => { results := [.lit (.bool false)], args := [d1, d2] }
  | _ => none }
def FnExactRunPassedWrongFalsely : Prop := fnExactRunPassedRow.holds Try.pinned (OpenSpec.ofChange fnExactRunPassedWrong)

/- THE SECOND FORM. 'bulk': how many values and letters a reading holds, each counted each time it is reached (what is shared counts as often as it is met; a slice's spare places count too). A statement '..UptoSaid' is the law's where the arguments, and the package variables that the reading takes, are together of bulk at most 1048576: NARROWER than '..Said'. Prove '..Said' where nothing that the law and all that it calls make is longer than what came in: it says more and counts as full. Else prove '..UptoSaid'. A law counts once. -/
mutual
def uptoBulk {H : Type} : DataW H → Nat
  | .lit (.string bytes) => bytes.length + 1
  | .lit _ => 1
  | .nil => 1
  | .ptr d => uptoBulk d + 1
  | .slice elems spare => uptoBulkAll elems + uptoBulkAll spare + 1
  | .agg parts => uptoBulkAll parts + 1
  | .iface _ d => uptoBulk d + 1
  | .map entries => uptoBulkEntries entries + 1
  | .held _ => 1
def uptoBulkAll {H : Type} : List (DataW H) → Nat
  | [] => 0
  | d :: r => uptoBulk d + uptoBulkAll r
def uptoBulkEntries {H : Type} : List (Lit × DataW H) → Nat
  | [] => 0
  | x :: r => uptoBulkEntry x + uptoBulkEntries r
def uptoBulkEntry {H : Type} : Lit × DataW H → Nat
  | (.string bytes, d) => bytes.length + uptoBulk d + 1
  | (_, d) => uptoBulk d + 1
 end
def uptoSmall : (H : Type) → List (DataW H) → Bool := fun _ ds => decide (uptoBulkAll ds ≤ 1048576)
def OpenSpec.upto (s : _root_.Go.ChangeSpec) : _root_.Go.OpenSpec := { _root_.Go.OpenSpec.ofChange s with cond := some uptoSmall }

/-- 'laws.FnExactSubstTerm', WHERE WHAT IT READS IS OF BULK AT MOST 1048576: true; the input reads as it did. -/
def fnExactSubstTermUptoRow : OpenClaim := { program := "ytcehfbegcapmnaa", sum := "26dfa3590b59b78d1315de54d62e800163f20fc557f242c81a176127f8953031", func := "loop.example/g00201/laws.FnExactSubstTerm", spec := "fnExactSubstTerm", unfollowed := true, recurses := true, apart := false, narrowed := true }
def FnExactSubstTermUptoSaid : Prop := fnExactSubstTermUptoRow.holds Try.pinned (OpenSpec.upto fnExactSubstTermSpec)

/-- 'laws.FnExactDevelopTerm', WHERE WHAT IT READS IS OF BULK AT MOST 1048576: true; the input reads as it did. -/
def fnExactDevelopTermUptoRow : OpenClaim := { program := "ytcehfbegcapmnaa", sum := "26dfa3590b59b78d1315de54d62e800163f20fc557f242c81a176127f8953031", func := "loop.example/g00201/laws.FnExactDevelopTerm", spec := "fnExactDevelopTerm", unfollowed := true, recurses := true, apart := false, narrowed := true }
def FnExactDevelopTermUptoSaid : Prop := fnExactDevelopTermUptoRow.holds Try.pinned (OpenSpec.upto fnExactDevelopTermSpec)

/-- 'laws.FnExactReduceAt', WHERE WHAT IT READS IS OF BULK AT MOST 1048576: true; the input reads as it did. -/
def fnExactReduceAtUptoRow : OpenClaim := { program := "ytcehfbegcapmnaa", sum := "26dfa3590b59b78d1315de54d62e800163f20fc557f242c81a176127f8953031", func := "loop.example/g00201/laws.FnExactReduceAt", spec := "fnExactReduceAt", unfollowed := true, recurses := true, apart := false, narrowed := true }
def FnExactReduceAtUptoSaid : Prop := fnExactReduceAtUptoRow.holds Try.pinned (OpenSpec.upto fnExactReduceAtSpec)

/-- 'laws.FnExactNormalTerm', WHERE WHAT IT READS IS OF BULK AT MOST 1048576: true; the input reads as it did. -/
def fnExactNormalTermUptoRow : OpenClaim := { program := "ytcehfbegcapmnaa", sum := "26dfa3590b59b78d1315de54d62e800163f20fc557f242c81a176127f8953031", func := "loop.example/g00201/laws.FnExactNormalTerm", spec := "fnExactNormalTerm", unfollowed := true, recurses := true, apart := false, narrowed := true }
def FnExactNormalTermUptoSaid : Prop := fnExactNormalTermUptoRow.holds Try.pinned (OpenSpec.upto fnExactNormalTermSpec)

/-- 'laws.FnExactIsValue', WHERE WHAT IT READS IS OF BULK AT MOST 1048576: true; the input reads as it did. -/
def fnExactIsValueUptoRow : OpenClaim := { program := "ytcehfbegcapmnaa", sum := "26dfa3590b59b78d1315de54d62e800163f20fc557f242c81a176127f8953031", func := "loop.example/g00201/laws.FnExactIsValue", spec := "fnExactIsValue", unfollowed := true, recurses := true, apart := false, narrowed := true }
def FnExactIsValueUptoSaid : Prop := fnExactIsValueUptoRow.holds Try.pinned (OpenSpec.upto fnExactIsValueSpec)

/-- 'laws.FnExactApplyTerm', WHERE WHAT IT READS IS OF BULK AT MOST 1048576: true; the input reads as it did. -/
def fnExactApplyTermUptoRow : OpenClaim := { program := "ytcehfbegcapmnaa", sum := "26dfa3590b59b78d1315de54d62e800163f20fc557f242c81a176127f8953031", func := "loop.example/g00201/laws.FnExactApplyTerm", spec := "fnExactApplyTerm", unfollowed := true, recurses := true, apart := false, narrowed := true }
def FnExactApplyTermUptoSaid : Prop := fnExactApplyTermUptoRow.holds Try.pinned (OpenSpec.upto fnExactApplyTermSpec)

/-- 'laws.FnExactShiftTerm', WHERE WHAT IT READS IS OF BULK AT MOST 1048576: true; the input reads as it did. -/
def fnExactShiftTermUptoRow : OpenClaim := { program := "ytcehfbegcapmnaa", sum := "26dfa3590b59b78d1315de54d62e800163f20fc557f242c81a176127f8953031", func := "loop.example/g00201/laws.FnExactShiftTerm", spec := "fnExactShiftTerm", unfollowed := true, recurses := true, apart := false, narrowed := true }
def FnExactShiftTermUptoSaid : Prop := fnExactShiftTermUptoRow.holds Try.pinned (OpenSpec.upto fnExactShiftTermSpec)

/-- 'laws.FnExactPassTerm', WHERE WHAT IT READS IS OF BULK AT MOST 1048576: true; the input reads as it did. -/
def fnExactPassTermUptoRow : OpenClaim := { program := "ytcehfbegcapmnaa", sum := "26dfa3590b59b78d1315de54d62e800163f20fc557f242c81a176127f8953031", func := "loop.example/g00201/laws.FnExactPassTerm", spec := "fnExactPassTerm", unfollowed := true, recurses := true, apart := false, narrowed := true }
def FnExactPassTermUptoSaid : Prop := fnExactPassTermUptoRow.holds Try.pinned (OpenSpec.upto fnExactPassTermSpec)

/-- 'laws.FnExactPassValue', WHERE WHAT IT READS IS OF BULK AT MOST 1048576: true; the input reads as it did. -/
def fnExactPassValueUptoRow : OpenClaim := { program := "ytcehfbegcapmnaa", sum := "26dfa3590b59b78d1315de54d62e800163f20fc557f242c81a176127f8953031", func := "loop.example/g00201/laws.FnExactPassValue", spec := "fnExactPassValue", unfollowed := true, recurses := true, apart := false, narrowed := true }
def FnExactPassValueUptoSaid : Prop := fnExactPassValueUptoRow.holds Try.pinned (OpenSpec.upto fnExactPassValueSpec)

/-- 'laws.FnExactHeadTerm', WHERE WHAT IT READS IS OF BULK AT MOST 1048576: true; the input reads as it did. -/
def fnExactHeadTermUptoRow : OpenClaim := { program := "ytcehfbegcapmnaa", sum := "26dfa3590b59b78d1315de54d62e800163f20fc557f242c81a176127f8953031", func := "loop.example/g00201/laws.FnExactHeadTerm", spec := "fnExactHeadTerm", unfollowed := true, recurses := true, apart := false, narrowed := true }
def FnExactHeadTermUptoSaid : Prop := fnExactHeadTermUptoRow.holds Try.pinned (OpenSpec.upto fnExactHeadTermSpec)

/-- 'laws.FnExactValueTerm', WHERE WHAT IT READS IS OF BULK AT MOST 1048576: true; the input reads as it did. -/
def fnExactValueTermUptoRow : OpenClaim := { program := "ytcehfbegcapmnaa", sum := "26dfa3590b59b78d1315de54d62e800163f20fc557f242c81a176127f8953031", func := "loop.example/g00201/laws.FnExactValueTerm", spec := "fnExactValueTerm", unfollowed := true, recurses := true, apart := false, narrowed := true }
def FnExactValueTermUptoSaid : Prop := fnExactValueTermUptoRow.holds Try.pinned (OpenSpec.upto fnExactValueTermSpec)

/-- 'laws.FnExactRunPassed', WHERE WHAT IT READS IS OF BULK AT MOST 1048576: true; the input reads as it did. -/
def fnExactRunPassedUptoRow : OpenClaim := { program := "ytcehfbegcapmnaa", sum := "26dfa3590b59b78d1315de54d62e800163f20fc557f242c81a176127f8953031", func := "loop.example/g00201/laws.FnExactRunPassed", spec := "fnExactRunPassed", unfollowed := true, recurses := true, apart := false, narrowed := true }
def FnExactRunPassedUptoSaid : Prop := fnExactRunPassedUptoRow.holds Try.pinned (OpenSpec.upto fnExactRunPassedSpec)

end Rows
end Go.Proofs.Ytcehfbegcapmnaa
