/-
  No cell of these rows narrows 'for every input' (looked for: loops, veiled, ifaces, maps, wideKeys, modest, calm, conditions, laid).
  DERIVED. THE GIVEN ROWS OF THIS SEAT. 10 by the template 'for every input the law returns true; each argument reads behind the call as it read before'; 0 by the template 'total and deterministic' (their statements: YtbkbpnccnhaolaaTotals.lean).
  GIVEN WITH THE SEED: the statements are not yours to turn. If you find one false, say at which input.
  Laid BY PROGRAM, IN A SANDBOX (cutbox-rows.mjs): the forced cells as the released guide's own fill.sh prints them over the translation 62b09e27cd6f26cc… (all of the seat's roots in one cut). By AI agents, Wed Nov 11 2026. No macro, syntax, notation, axiom, sorry.
-/
import Derived.Test.YtbkbpnccnhaolaaChecked
import GoSem.Claim
import GoSem.ClaimJoined
import GoSem.ClaimMapViews
import Derived.JoinedTies
import Derived.KernelRfl
namespace Go.Proofs.Ytbkbpnccnhaolaa
/- THE CELL 'sum', in the pinned program and in every row, IS THE sha256 OF THE DUMP (.gsa) THAT YtbkbpnccnhaolaaProg.lean LOADS. Nothing in Lean hashes anything: it is a label: what it is worth is what the hold of that sum in a sandbox is worth. -/
noncomputable def Try.pinned : Pinned := { name := "ytbkbpnccnhaolaa", sum := "62b09e27cd6f26cc4b3961f01b320e185e51ca3cf72159d2e2eeee02f0e7f3be", checked := Try.checked }
namespace Rows
def none {H : Type} : Left H := { results := [], args := [] }

/-- 'laws.FnExactDfaRun': WHATEVER THE INPUT: true; the input reads as it did. -/
def fnExactDfaRunSpec : ChangeSpec := { name := "fnExactDfaRun", fn := fun _ => fun
  | [d1, d2, d3] => { results := [.lit (.bool true)], args := [d1, d2, d3] }
  | _ => none }
def fnExactDfaRunRow : OpenClaim := { program := "ytbkbpnccnhaolaa", sum := "62b09e27cd6f26cc4b3961f01b320e185e51ca3cf72159d2e2eeee02f0e7f3be", func := "loop.example/regularlanguages/laws.FnExactDfaRun", spec := "fnExactDfaRun", unfollowed := true, recurses := true, plainKeys := false, apart := false }
def FnExactDfaRunSaid : Prop := fnExactDfaRunRow.holds Try.pinned (OpenSpec.ofChange fnExactDfaRunSpec)

/-- ITS FALSE NEIGHBOUR: 'it returns false'. Refute it at one input. -/
def fnExactDfaRunWrong : ChangeSpec := { name := "fnExactDfaRun", fn := fun _ => fun
  | [d1, d2, d3] => { results := [.lit (.bool false)], args := [d1, d2, d3] }
  | _ => none }
def FnExactDfaRunWrongFalsely : Prop := fnExactDfaRunRow.holds Try.pinned (OpenSpec.ofChange fnExactDfaRunWrong)

/-- 'laws.FnExactDfaAccepts': WHATEVER THE INPUT: true; the input reads as it did. -/
def fnExactDfaAcceptsSpec : ChangeSpec := { name := "fnExactDfaAccepts", fn := fun _ => fun
  | [d1, d2] => { results := [.lit (.bool true)], args := [d1, d2] }
  | _ => none }
def fnExactDfaAcceptsRow : OpenClaim := { program := "ytbkbpnccnhaolaa", sum := "62b09e27cd6f26cc4b3961f01b320e185e51ca3cf72159d2e2eeee02f0e7f3be", func := "loop.example/regularlanguages/laws.FnExactDfaAccepts", spec := "fnExactDfaAccepts", unfollowed := true, recurses := true, plainKeys := false, apart := false }
def FnExactDfaAcceptsSaid : Prop := fnExactDfaAcceptsRow.holds Try.pinned (OpenSpec.ofChange fnExactDfaAcceptsSpec)

/-- ITS FALSE NEIGHBOUR: 'it returns false'. Refute it at one input. -/
def fnExactDfaAcceptsWrong : ChangeSpec := { name := "fnExactDfaAccepts", fn := fun _ => fun
  | [d1, d2] => { results := [.lit (.bool false)], args := [d1, d2] }
  | _ => none }
def FnExactDfaAcceptsWrongFalsely : Prop := fnExactDfaAcceptsRow.holds Try.pinned (OpenSpec.ofChange fnExactDfaAcceptsWrong)

/-- 'laws.FnExactFewestParts': WHATEVER THE INPUT: true; the input reads as it did. -/
def fnExactFewestPartsSpec : ChangeSpec := { name := "fnExactFewestParts", fn := fun _ => fun
  | [d1, d2] => { results := [.lit (.bool true)], args := [d1, d2] }
  | _ => none }
def fnExactFewestPartsRow : OpenClaim := { program := "ytbkbpnccnhaolaa", sum := "62b09e27cd6f26cc4b3961f01b320e185e51ca3cf72159d2e2eeee02f0e7f3be", func := "loop.example/regularlanguages/laws.FnExactFewestParts", spec := "fnExactFewestParts", unfollowed := true, recurses := true, plainKeys := false, apart := false }
def FnExactFewestPartsSaid : Prop := fnExactFewestPartsRow.holds Try.pinned (OpenSpec.ofChange fnExactFewestPartsSpec)

/-- ITS FALSE NEIGHBOUR: 'it returns false'. Refute it at one input. -/
def fnExactFewestPartsWrong : ChangeSpec := { name := "fnExactFewestParts", fn := fun _ => fun
  | [d1, d2] => { results := [.lit (.bool false)], args := [d1, d2] }
  | _ => none }
def FnExactFewestPartsWrongFalsely : Prop := fnExactFewestPartsRow.holds Try.pinned (OpenSpec.ofChange fnExactFewestPartsWrong)

/-- 'laws.FnExactNfaClose': WHATEVER THE INPUT: true; the input reads as it did. -/
def fnExactNfaCloseSpec : ChangeSpec := { name := "fnExactNfaClose", fn := fun _ => fun
  | [d1, d2] => { results := [.lit (.bool true)], args := [d1, d2] }
  | _ => none }
def fnExactNfaCloseRow : OpenClaim := { program := "ytbkbpnccnhaolaa", sum := "62b09e27cd6f26cc4b3961f01b320e185e51ca3cf72159d2e2eeee02f0e7f3be", func := "loop.example/regularlanguages/laws.FnExactNfaClose", spec := "fnExactNfaClose", unfollowed := true, recurses := true, plainKeys := false, apart := false }
def FnExactNfaCloseSaid : Prop := fnExactNfaCloseRow.holds Try.pinned (OpenSpec.ofChange fnExactNfaCloseSpec)

/-- ITS FALSE NEIGHBOUR: 'it returns false'. Refute it at one input. -/
def fnExactNfaCloseWrong : ChangeSpec := { name := "fnExactNfaClose", fn := fun _ => fun
  | [d1, d2] => { results := [.lit (.bool false)], args := [d1, d2] }
  | _ => none }
def FnExactNfaCloseWrongFalsely : Prop := fnExactNfaCloseRow.holds Try.pinned (OpenSpec.ofChange fnExactNfaCloseWrong)

/-- 'laws.FnExactNfaStep': WHATEVER THE INPUT: true; the input reads as it did. -/
def fnExactNfaStepSpec : ChangeSpec := { name := "fnExactNfaStep", fn := fun _ => fun
  | [d1, d2, d3] => { results := [.lit (.bool true)], args := [d1, d2, d3] }
  | _ => none }
def fnExactNfaStepRow : OpenClaim := { program := "ytbkbpnccnhaolaa", sum := "62b09e27cd6f26cc4b3961f01b320e185e51ca3cf72159d2e2eeee02f0e7f3be", func := "loop.example/regularlanguages/laws.FnExactNfaStep", spec := "fnExactNfaStep", unfollowed := true, recurses := true, plainKeys := false, apart := false }
def FnExactNfaStepSaid : Prop := fnExactNfaStepRow.holds Try.pinned (OpenSpec.ofChange fnExactNfaStepSpec)

/-- ITS FALSE NEIGHBOUR: 'it returns false'. Refute it at one input. -/
def fnExactNfaStepWrong : ChangeSpec := { name := "fnExactNfaStep", fn := fun _ => fun
  | [d1, d2, d3] => { results := [.lit (.bool false)], args := [d1, d2, d3] }
  | _ => none }
def FnExactNfaStepWrongFalsely : Prop := fnExactNfaStepRow.holds Try.pinned (OpenSpec.ofChange fnExactNfaStepWrong)

/-- 'laws.FnExactNfaAccepts': WHATEVER THE INPUT: true; the input reads as it did. -/
def fnExactNfaAcceptsSpec : ChangeSpec := { name := "fnExactNfaAccepts", fn := fun _ => fun
  | [d1, d2] => { results := [.lit (.bool true)], args := [d1, d2] }
  | _ => none }
def fnExactNfaAcceptsRow : OpenClaim := { program := "ytbkbpnccnhaolaa", sum := "62b09e27cd6f26cc4b3961f01b320e185e51ca3cf72159d2e2eeee02f0e7f3be", func := "loop.example/regularlanguages/laws.FnExactNfaAccepts", spec := "fnExactNfaAccepts", unfollowed := true, recurses := true, plainKeys := false, apart := false }
def FnExactNfaAcceptsSaid : Prop := fnExactNfaAcceptsRow.holds Try.pinned (OpenSpec.ofChange fnExactNfaAcceptsSpec)

/-- ITS FALSE NEIGHBOUR: 'it returns false'. Refute it at one input. -/
def fnExactNfaAcceptsWrong : ChangeSpec := { name := "fnExactNfaAccepts", fn := fun _ => fun
  | [d1, d2] => { results := [.lit (.bool false)], args := [d1, d2] }
  | _ => none }
def FnExactNfaAcceptsWrongFalsely : Prop := fnExactNfaAcceptsRow.holds Try.pinned (OpenSpec.ofChange fnExactNfaAcceptsWrong)

/-- 'laws.FnExactSubsetCount': WHATEVER THE INPUT: true; the input reads as it did. -/
def fnExactSubsetCountSpec : ChangeSpec := { name := "fnExactSubsetCount", fn := fun _ => fun
  | [d] => { results := [.lit (.bool true)], args := [d] }
  | _ => none }
def fnExactSubsetCountRow : OpenClaim := { program := "ytbkbpnccnhaolaa", sum := "62b09e27cd6f26cc4b3961f01b320e185e51ca3cf72159d2e2eeee02f0e7f3be", func := "loop.example/regularlanguages/laws.FnExactSubsetCount", spec := "fnExactSubsetCount", unfollowed := true, recurses := true, plainKeys := false, apart := false }
def FnExactSubsetCountSaid : Prop := fnExactSubsetCountRow.holds Try.pinned (OpenSpec.ofChange fnExactSubsetCountSpec)

/-- ITS FALSE NEIGHBOUR: 'it returns false'. Refute it at one input. -/
def fnExactSubsetCountWrong : ChangeSpec := { name := "fnExactSubsetCount", fn := fun _ => fun
  | [d] => { results := [.lit (.bool false)], args := [d] }
  | _ => none }
def FnExactSubsetCountWrongFalsely : Prop := fnExactSubsetCountRow.holds Try.pinned (OpenSpec.ofChange fnExactSubsetCountWrong)

/-- 'laws.FnExactNfaRun': WHATEVER THE INPUT: true; the input reads as it did. -/
def fnExactNfaRunSpec : ChangeSpec := { name := "fnExactNfaRun", fn := fun _ => fun
  | [d1, d2] => { results := [.lit (.bool true)], args := [d1, d2] }
  | _ => none }
def fnExactNfaRunRow : OpenClaim := { program := "ytbkbpnccnhaolaa", sum := "62b09e27cd6f26cc4b3961f01b320e185e51ca3cf72159d2e2eeee02f0e7f3be", func := "loop.example/regularlanguages/laws.FnExactNfaRun", spec := "fnExactNfaRun", unfollowed := true, recurses := true, plainKeys := false, apart := false }
def FnExactNfaRunSaid : Prop := fnExactNfaRunRow.holds Try.pinned (OpenSpec.ofChange fnExactNfaRunSpec)

/-- ITS FALSE NEIGHBOUR: 'it returns false'. Refute it at one input. -/
def fnExactNfaRunWrong : ChangeSpec := { name := "fnExactNfaRun", fn := fun _ => fun
  | [d1, d2] => { results := [.lit (.bool false)], args := [d1, d2] }
  | _ => none }
def FnExactNfaRunWrongFalsely : Prop := fnExactNfaRunRow.holds Try.pinned (OpenSpec.ofChange fnExactNfaRunWrong)

/-- 'laws.FnExactDfaAfter': WHATEVER THE INPUT: true; the input reads as it did. -/
def fnExactDfaAfterSpec : ChangeSpec := { name := "fnExactDfaAfter", fn := fun _ => fun
  | [d1, d2] => { results := [.lit (.bool true)], args := [d1, d2] }
  | _ => none }
def fnExactDfaAfterRow : OpenClaim := { program := "ytbkbpnccnhaolaa", sum := "62b09e27cd6f26cc4b3961f01b320e185e51ca3cf72159d2e2eeee02f0e7f3be", func := "loop.example/regularlanguages/laws.FnExactDfaAfter", spec := "fnExactDfaAfter", unfollowed := true, recurses := true, plainKeys := false, apart := false }
def FnExactDfaAfterSaid : Prop := fnExactDfaAfterRow.holds Try.pinned (OpenSpec.ofChange fnExactDfaAfterSpec)

/-- ITS FALSE NEIGHBOUR: 'it returns false'. Refute it at one input. -/
def fnExactDfaAfterWrong : ChangeSpec := { name := "fnExactDfaAfter", fn := fun _ => fun
  | [d1, d2] => { results := [.lit (.bool false)], args := [d1, d2] }
  | _ => none }
def FnExactDfaAfterWrongFalsely : Prop := fnExactDfaAfterRow.holds Try.pinned (OpenSpec.ofChange fnExactDfaAfterWrong)

/-- 'laws.FnExactRewriteBack': WHATEVER THE INPUT: true; the input reads as it did. -/
def fnExactRewriteBackSpec : ChangeSpec := { name := "fnExactRewriteBack", fn := fun _ => fun
  | [d1, d2] => { results := [.lit (.bool true)], args := [d1, d2] }
  | _ => none }
def fnExactRewriteBackRow : OpenClaim := { program := "ytbkbpnccnhaolaa", sum := "62b09e27cd6f26cc4b3961f01b320e185e51ca3cf72159d2e2eeee02f0e7f3be", func := "loop.example/regularlanguages/laws.FnExactRewriteBack", spec := "fnExactRewriteBack", unfollowed := true, recurses := true, plainKeys := false, apart := false }
def FnExactRewriteBackSaid : Prop := fnExactRewriteBackRow.holds Try.pinned (OpenSpec.ofChange fnExactRewriteBackSpec)

/-- ITS FALSE NEIGHBOUR: 'it returns false'. Refute it at one input. -/
def fnExactRewriteBackWrong : ChangeSpec := { name := "fnExactRewriteBack", fn := fun _ => fun
  | [d1, d2] => { results := [.lit (.bool false)], args := [d1, d2] }
  | _ => none }
def FnExactRewriteBackWrongFalsely : Prop := fnExactRewriteBackRow.holds Try.pinned (OpenSpec.ofChange fnExactRewriteBackWrong)

/- THE SECOND FORM. 'bulk': how many values and letters a reading holds, each counted each time it is reached (what is shared counts as often as it is met; a slice's spare places count too). A statement '..UptoSaid' is the law's where the arguments, and the package variables that the reading takes, are together of bulk at most 1048576: NARROWER than '..Said'. Prove '..Said' where nothing that the law and all that it calls make is longer than what came in: it says more and counts as full. Else prove '..UptoSaid'. A law counts once. -/
mutual
def uptoBulk {H : Type} : DataW H → Nat
  | .lit (.string bytes) => bytes.length + 1
  | .lit _ => 1
  | .nil => 1
  | .ptr d => uptoBulk d + 1
  | .slice elems spare => uptoBulkAll elems + uptoBulkAll spare + 1
  | .agg parts => uptoBulkAll parts + 1
  | .iface _ d => uptoBulk d + 1
  | .map entries => uptoBulkEntries entries + 1
  | .held _ => 1
def uptoBulkAll {H : Type} : List (DataW H) → Nat
  | [] => 0
  | d :: r => uptoBulk d + uptoBulkAll r
def uptoBulkEntries {H : Type} : List (Lit × DataW H) → Nat
  | [] => 0
  | x :: r => uptoBulkEntry x + uptoBulkEntries r
def uptoBulkEntry {H : Type} : Lit × DataW H → Nat
  | (.string bytes, d) => bytes.length + uptoBulk d + 1
  | (_, d) => uptoBulk d + 1
 end
def uptoSmall : (H : Type) → List (DataW H) → Bool := fun _ ds => decide (uptoBulkAll ds ≤ 1048576)
def OpenSpec.upto (s : _root_.Go.ChangeSpec) : _root_.Go.OpenSpec := { _root_.Go.OpenSpec.ofChange s with cond := some uptoSmall }

/-- 'laws.FnExactDfaRun', WHERE WHAT IT READS IS OF BULK AT MOST 1048576: true; the input reads as it did. -/
def fnExactDfaRunUptoRow : OpenClaim := { program := "ytbkbpnccnhaolaa", sum := "62b09e27cd6f26cc4b3961f01b320e185e51ca3cf72159d2e2eeee02f0e7f3be", func := "loop.example/regularlanguages/laws.FnExactDfaRun", spec := "fnExactDfaRun", unfollowed := true, recurses := true, plainKeys := false, apart := false, narrowed := true }
def FnExactDfaRunUptoSaid : Prop := fnExactDfaRunUptoRow.holds Try.pinned (OpenSpec.upto fnExactDfaRunSpec)

/-- 'laws.FnExactDfaAccepts', WHERE WHAT IT READS IS OF BULK AT MOST 1048576: true; the input reads as it did. -/
def fnExactDfaAcceptsUptoRow : OpenClaim := { program := "ytbkbpnccnhaolaa", sum := "62b09e27cd6f26cc4b3961f01b320e185e51ca3cf72159d2e2eeee02f0e7f3be", func := "loop.example/regularlanguages/laws.FnExactDfaAccepts", spec := "fnExactDfaAccepts", unfollowed := true, recurses := true, plainKeys := false, apart := false, narrowed := true }
def FnExactDfaAcceptsUptoSaid : Prop := fnExactDfaAcceptsUptoRow.holds Try.pinned (OpenSpec.upto fnExactDfaAcceptsSpec)

/-- 'laws.FnExactFewestParts', WHERE WHAT IT READS IS OF BULK AT MOST 1048576: true; the input reads as it did. -/
def fnExactFewestPartsUptoRow : OpenClaim := { program := "ytbkbpnccnhaolaa", sum := "62b09e27cd6f26cc4b3961f01b320e185e51ca3cf72159d2e2eeee02f0e7f3be", func := "loop.example/regularlanguages/laws.FnExactFewestParts", spec := "fnExactFewestParts", unfollowed := true, recurses := true, plainKeys := false, apart := false, narrowed := true }
def FnExactFewestPartsUptoSaid : Prop := fnExactFewestPartsUptoRow.holds Try.pinned (OpenSpec.upto fnExactFewestPartsSpec)

/-- 'laws.FnExactNfaClose', WHERE WHAT IT READS IS OF BULK AT MOST 1048576: true; the input reads as it did. -/
def fnExactNfaCloseUptoRow : OpenClaim := { program := "ytbkbpnccnhaolaa", sum := "62b09e27cd6f26cc4b3961f01b320e185e51ca3cf72159d2e2eeee02f0e7f3be", func := "loop.example/regularlanguages/laws.FnExactNfaClose", spec := "fnExactNfaClose", unfollowed := true, recurses := true, plainKeys := false, apart := false, narrowed := true }
def FnExactNfaCloseUptoSaid : Prop := fnExactNfaCloseUptoRow.holds Try.pinned (OpenSpec.upto fnExactNfaCloseSpec)

/-- 'laws.FnExactNfaStep', WHERE WHAT IT READS IS OF BULK AT MOST 1048576: true; the input reads as it did. -/
def fnExactNfaStepUptoRow : OpenClaim := { program := "ytbkbpnccnhaolaa", sum := "62b09e27cd6f26cc4b3961f01b320e185e51ca3cf72159d2e2eeee02f0e7f3be", func := "loop.example/regularlanguages/laws.FnExactNfaStep", spec := "fnExactNfaStep", unfollowed := true, recurses := true, plainKeys := false, apart := false, narrowed := true }
def FnExactNfaStepUptoSaid : Prop := fnExactNfaStepUptoRow.holds Try.pinned (OpenSpec.upto fnExactNfaStepSpec)

/-- 'laws.FnExactNfaAccepts', WHERE WHAT IT READS IS OF BULK AT MOST 1048576: true; the input reads as it did. -/
def fnExactNfaAcceptsUptoRow : OpenClaim := { program := "ytbkbpnccnhaolaa", sum := "62b09e27cd6f26cc4b3961f01b320e185e51ca3cf72159d2e2eeee02f0e7f3be", func := "loop.example/regularlanguages/laws.FnExactNfaAccepts", spec := "fnExactNfaAccepts", unfollowed := true, recurses := true, plainKeys := false, apart := false, narrowed := true }
def FnExactNfaAcceptsUptoSaid : Prop := fnExactNfaAcceptsUptoRow.holds Try.pinned (OpenSpec.upto fnExactNfaAcceptsSpec)

/-- 'laws.FnExactSubsetCount', WHERE WHAT IT READS IS OF BULK AT MOST 1048576: true; the input reads as it did. -/
def fnExactSubsetCountUptoRow : OpenClaim := { program := "ytbkbpnccnhaolaa", sum := "62b09e27cd6f26cc4b3961f01b320e185e51ca3cf72159d2e2eeee02f0e7f3be", func := "loop.example/regularlanguages/laws.FnExactSubsetCount", spec := "fnExactSubsetCount", unfollowed := true, recurses := true, plainKeys := false, apart := false, narrowed := true }
def FnExactSubsetCountUptoSaid : Prop := fnExactSubsetCountUptoRow.holds Try.pinned (OpenSpec.upto fnExactSubsetCountSpec)

/-- 'laws.FnExactNfaRun', WHERE WHAT IT READS IS OF BULK AT MOST 1048576: true; the input reads as it did. -/
def fnExactNfaRunUptoRow : OpenClaim := { program := "ytbkbpnccnhaolaa", sum := "62b09e27cd6f26cc4b3961f01b320e185e51ca3cf72159d2e2eeee02f0e7f3be", func := "loop.example/regularlanguages/laws.FnExactNfaRun", spec := "fnExactNfaRun", unfollowed := true, recurses := true, plainKeys := false, apart := false, narrowed := true }
def FnExactNfaRunUptoSaid : Prop := fnExactNfaRunUptoRow.holds Try.pinned (OpenSpec.upto fnExactNfaRunSpec)

/-- 'laws.FnExactDfaAfter', WHERE WHAT IT READS IS OF BULK AT MOST 1048576: true; the input reads as it did. -/
def fnExactDfaAfterUptoRow : OpenClaim := { program := "ytbkbpnccnhaolaa", sum := "62b09e27cd6f26cc4b3961f01b320e185e51ca3cf72159d2e2eeee02f0e7f3be", func := "loop.example/regularlanguages/laws.FnExactDfaAfter", spec := "fnExactDfaAfter", unfollowed := true, recurses := true, plainKeys := false, apart := false, narrowed := true }
def FnExactDfaAfterUptoSaid : Prop := fnExactDfaAfterUptoRow.holds Try.pinned (OpenSpec.upto fnExactDfaAfterSpec)

/-- 'laws.FnExactRewriteBack', WHERE WHAT IT READS IS OF BULK AT MOST 1048576: true; the input reads as it did. -/
def fnExactRewriteBackUptoRow : OpenClaim := { program := "ytbkbpnccnhaolaa", sum := "62b09e27cd6f26cc4b3961f01b320e185e51ca3cf72159d2e2eeee02f0e7f3be", func := "loop.example/regularlanguages/laws.FnExactRewriteBack", spec := "fnExactRewriteBack", unfollowed := true, recurses := true, plainKeys := false, apart := false, narrowed := true }
def FnExactRewriteBackUptoSaid : Prop := fnExactRewriteBackUptoRow.holds Try.pinned (OpenSpec.upto fnExactRewriteBackSpec)

end Rows
end Go.Proofs.Ytbkbpnccnhaolaa
