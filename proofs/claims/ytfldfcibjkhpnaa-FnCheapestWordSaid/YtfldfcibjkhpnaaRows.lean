/-
  No cell of these rows narrows 'for every input' (looked for: loops, veiled, ifaces, maps, wideKeys, modest, calm, conditions, laid).
  DERIVED. THE GIVEN ROWS OF THIS SEAT. 11 by the template 'for every input the law returns true; each argument reads behind the call as it read before'; 0 by the template 'total and deterministic' (their statements: YtfldfcibjkhpnaaTotals.lean).
  GIVEN WITH THE SEED: the statements are not yours to turn. If you find one false, say at which input.
  Laid BY PROGRAM, IN A SANDBOX (cutbox-rows.mjs): the forced cells as the released guide's own fill.sh prints them over the translation dfc1f769a79259d6… (all of the seat's roots in one cut). By AI agents, Wed Nov 11 2026. No macro, syntax, notation, axiom, sorry.
-/
import Derived.Test.YtfldfcibjkhpnaaChecked
import GoSem.Claim
import GoSem.ClaimJoined
import GoSem.ClaimMapViews
import Derived.JoinedTies
import Derived.KernelRfl
namespace Go.Proofs.Ytfldfcibjkhpnaa
/- THE CELL 'sum', in the pinned program and in every row, IS THE sha256 OF THE DUMP (.gsa) THAT YtfldfcibjkhpnaaProg.lean LOADS. Nothing in Lean hashes anything: it is a label: what it is worth is what the hold of that sum in a sandbox is worth. -/
noncomputable def Try.pinned : Pinned := { name := "ytfldfcibjkhpnaa", sum := "dfc1f769a79259d6e76a142040b48114da858ba90b89ac6aae8992f35f702b0f", checked := Try.checked }
namespace Rows
def none {H : Type} : Left H := { results := [], args := [] }

/-- 'laws.FnExactRoadsValid': WHATEVER THE INPUT: true; the input reads as it did. -/
def fnExactRoadsValidSpec : ChangeSpec := { name := "fnExactRoadsValid", fn := fun _ => fun
  | [d] => { results := [.lit (.bool true)], args := [d] }
  | _ => none }
def fnExactRoadsValidRow : OpenClaim := { program := "ytfldfcibjkhpnaa", sum := "dfc1f769a79259d6e76a142040b48114da858ba90b89ac6aae8992f35f702b0f", func := "loop.example/regularlanguages/laws.FnExactRoadsValid", spec := "fnExactRoadsValid", unfollowed := true, recurses := true, apart := false }
def FnExactRoadsValidSaid : Prop := fnExactRoadsValidRow.holds Try.pinned (OpenSpec.ofChange fnExactRoadsValidSpec)

/-- ITS FALSE NEIGHBOUR: 'it returns false'. Refute it at one input. -/
def fnExactRoadsValidWrong : ChangeSpec := { name := "fnExactRoadsValid", fn := fun _ => fun
  | [d] => { results := [.lit (.bool false)], args := [d] }
  | _ => none }
def FnExactRoadsValidWrongFalsely : Prop := fnExactRoadsValidRow.holds Try.pinned (OpenSpec.ofChange fnExactRoadsValidWrong)

/-- 'laws.FnRoadsValid': WHATEVER THE INPUT: true; the input reads as it did. -/
def fnRoadsValidSpec : ChangeSpec := { name := "fnRoadsValid", fn := fun _ => fun
  | [d] => { results := [.lit (.bool true)], args := [d] }
  | _ => none }
def fnRoadsValidRow : OpenClaim := { program := "ytfldfcibjkhpnaa", sum := "dfc1f769a79259d6e76a142040b48114da858ba90b89ac6aae8992f35f702b0f", func := "loop.example/regularlanguages/laws.FnRoadsValid", spec := "fnRoadsValid", unfollowed := true, recurses := true, apart := false }
def FnRoadsValidSaid : Prop := fnRoadsValidRow.holds Try.pinned (OpenSpec.ofChange fnRoadsValidSpec)

/-- ITS FALSE NEIGHBOUR: 'it returns false'. Refute it at one input. -/
def fnRoadsValidWrong : ChangeSpec := { name := "fnRoadsValid", fn := fun _ => fun
  | [d] => { results := [.lit (.bool false)], args := [d] }
  | _ => none }
def FnRoadsValidWrongFalsely : Prop := fnRoadsValidRow.holds Try.pinned (OpenSpec.ofChange fnRoadsValidWrong)

/-- 'laws.FnExactWayCount': WHATEVER THE INPUT: true; the input reads as it did. -/
def fnExactWayCountSpec : ChangeSpec := { name := "fnExactWayCount", fn := fun _ => fun
  | [d1, d2] => { results := [.lit (.bool true)], args := [d1, d2] }
  | _ => none }
def fnExactWayCountRow : OpenClaim := { program := "ytfldfcibjkhpnaa", sum := "dfc1f769a79259d6e76a142040b48114da858ba90b89ac6aae8992f35f702b0f", func := "loop.example/regularlanguages/laws.FnExactWayCount", spec := "fnExactWayCount", unfollowed := true, recurses := true, apart := false }
def FnExactWayCountSaid : Prop := fnExactWayCountRow.holds Try.pinned (OpenSpec.ofChange fnExactWayCountSpec)

/-- ITS FALSE NEIGHBOUR: 'it returns false'. Refute it at one input. -/
def fnExactWayCountWrong : ChangeSpec := { name := "fnExactWayCount", fn := fun _ => fun
  | [d1, d2] => { results := [.lit (.bool false)], args := [d1, d2] }
  | _ => none }
def FnExactWayCountWrongFalsely : Prop := fnExactWayCountRow.holds Try.pinned (OpenSpec.ofChange fnExactWayCountWrong)

/-- 'laws.FnWayCount': WHATEVER THE INPUT: true; the input reads as it did. -/
def fnWayCountSpec : ChangeSpec := { name := "fnWayCount", fn := fun _ => fun
  | [d] => { results := [.lit (.bool true)], args := [d] }
  | _ => none }
def fnWayCountRow : OpenClaim := { program := "ytfldfcibjkhpnaa", sum := "dfc1f769a79259d6e76a142040b48114da858ba90b89ac6aae8992f35f702b0f", func := "loop.example/regularlanguages/laws.FnWayCount", spec := "fnWayCount", unfollowed := true, recurses := true, apart := false }
def FnWayCountSaid : Prop := fnWayCountRow.holds Try.pinned (OpenSpec.ofChange fnWayCountSpec)

/-- ITS FALSE NEIGHBOUR: 'it returns false'. Refute it at one input. -/
def fnWayCountWrong : ChangeSpec := { name := "fnWayCount", fn := fun _ => fun
  | [d] => { results := [.lit (.bool false)], args := [d] }
  | _ => none }
def FnWayCountWrongFalsely : Prop := fnWayCountRow.holds Try.pinned (OpenSpec.ofChange fnWayCountWrong)

/-- 'laws.FnRoadsNfa': WHATEVER THE INPUT: true; the input reads as it did. -/
def fnRoadsNfaSpec : ChangeSpec := { name := "fnRoadsNfa", fn := fun _ => fun
  | [d] => { results := [.lit (.bool true)], args := [d] }
  | _ => none }
def fnRoadsNfaRow : OpenClaim := { program := "ytfldfcibjkhpnaa", sum := "dfc1f769a79259d6e76a142040b48114da858ba90b89ac6aae8992f35f702b0f", func := "loop.example/regularlanguages/laws.FnRoadsNfa", spec := "fnRoadsNfa", unfollowed := true, recurses := true, apart := false }
def FnRoadsNfaSaid : Prop := fnRoadsNfaRow.holds Try.pinned (OpenSpec.ofChange fnRoadsNfaSpec)

/-- ITS FALSE NEIGHBOUR: 'it returns false'. Refute it at one input. -/
def fnRoadsNfaWrong : ChangeSpec := { name := "fnRoadsNfa", fn := fun _ => fun
  | [d] => { results := [.lit (.bool false)], args := [d] }
  | _ => none }
def FnRoadsNfaWrongFalsely : Prop := fnRoadsNfaRow.holds Try.pinned (OpenSpec.ofChange fnRoadsNfaWrong)

/-- 'laws.FnExactBestCost': WHATEVER THE INPUT: true; the input reads as it did. -/
def fnExactBestCostSpec : ChangeSpec := { name := "fnExactBestCost", fn := fun _ => fun
  | [d1, d2] => { results := [.lit (.bool true)], args := [d1, d2] }
  | _ => none }
def fnExactBestCostRow : OpenClaim := { program := "ytfldfcibjkhpnaa", sum := "dfc1f769a79259d6e76a142040b48114da858ba90b89ac6aae8992f35f702b0f", func := "loop.example/regularlanguages/laws.FnExactBestCost", spec := "fnExactBestCost", unfollowed := true, recurses := true, apart := false }
def FnExactBestCostSaid : Prop := fnExactBestCostRow.holds Try.pinned (OpenSpec.ofChange fnExactBestCostSpec)

/-- ITS FALSE NEIGHBOUR: 'it returns false'. Refute it at one input. -/
def fnExactBestCostWrong : ChangeSpec := { name := "fnExactBestCost", fn := fun _ => fun
  | [d1, d2] => { results := [.lit (.bool false)], args := [d1, d2] }
  | _ => none }
def FnExactBestCostWrongFalsely : Prop := fnExactBestCostRow.holds Try.pinned (OpenSpec.ofChange fnExactBestCostWrong)

/-- 'laws.FnRoadsMore': WHATEVER THE INPUT: true; the input reads as it did. -/
def fnRoadsMoreSpec : ChangeSpec := { name := "fnRoadsMore", fn := fun _ => fun
  | [d1, d2] => { results := [.lit (.bool true)], args := [d1, d2] }
  | _ => none }
def fnRoadsMoreRow : OpenClaim := { program := "ytfldfcibjkhpnaa", sum := "dfc1f769a79259d6e76a142040b48114da858ba90b89ac6aae8992f35f702b0f", func := "loop.example/regularlanguages/laws.FnRoadsMore", spec := "fnRoadsMore", unfollowed := true, recurses := true, apart := false }
def FnRoadsMoreSaid : Prop := fnRoadsMoreRow.holds Try.pinned (OpenSpec.ofChange fnRoadsMoreSpec)

/-- ITS FALSE NEIGHBOUR: 'it returns false'. Refute it at one input. -/
def fnRoadsMoreWrong : ChangeSpec := { name := "fnRoadsMore", fn := fun _ => fun
  | [d1, d2] => { results := [.lit (.bool false)], args := [d1, d2] }
  | _ => none }
def FnRoadsMoreWrongFalsely : Prop := fnRoadsMoreRow.holds Try.pinned (OpenSpec.ofChange fnRoadsMoreWrong)

/-- 'laws.FnExactCheapestWord': WHATEVER THE INPUT: true; the input reads as it did. -/
def fnExactCheapestWordSpec : ChangeSpec := { name := "fnExactCheapestWord", fn := fun _ => fun
  | [d1, d2] => { results := [.lit (.bool true)], args := [d1, d2] }
  | _ => none }
def fnExactCheapestWordRow : OpenClaim := { program := "ytfldfcibjkhpnaa", sum := "dfc1f769a79259d6e76a142040b48114da858ba90b89ac6aae8992f35f702b0f", func := "loop.example/regularlanguages/laws.FnExactCheapestWord", spec := "fnExactCheapestWord", unfollowed := true, recurses := true, apart := false }
def FnExactCheapestWordSaid : Prop := fnExactCheapestWordRow.holds Try.pinned (OpenSpec.ofChange fnExactCheapestWordSpec)

/-- ITS FALSE NEIGHBOUR: 'it returns false'. Refute it at one input. -/
def fnExactCheapestWordWrong : ChangeSpec := { name := "fnExactCheapestWord", fn := fun _ => fun
  | [d1, d2] => { results := [.lit (.bool false)], args := [d1, d2] }
  | _ => none }
def FnExactCheapestWordWrongFalsely : Prop := fnExactCheapestWordRow.holds Try.pinned (OpenSpec.ofChange fnExactCheapestWordWrong)

/-- 'laws.FnExactRoadsNfa': WHATEVER THE INPUT: true; the input reads as it did. -/
def fnExactRoadsNfaSpec : ChangeSpec := { name := "fnExactRoadsNfa", fn := fun _ => fun
  | [d] => { results := [.lit (.bool true)], args := [d] }
  | _ => none }
def fnExactRoadsNfaRow : OpenClaim := { program := "ytfldfcibjkhpnaa", sum := "dfc1f769a79259d6e76a142040b48114da858ba90b89ac6aae8992f35f702b0f", func := "loop.example/regularlanguages/laws.FnExactRoadsNfa", spec := "fnExactRoadsNfa", unfollowed := true, recurses := true, apart := false }
def FnExactRoadsNfaSaid : Prop := fnExactRoadsNfaRow.holds Try.pinned (OpenSpec.ofChange fnExactRoadsNfaSpec)

/-- ITS FALSE NEIGHBOUR: 'it returns false'. Refute it at one input. -/
def fnExactRoadsNfaWrong : ChangeSpec := { name := "fnExactRoadsNfa", fn := fun _ => fun
  | [d] => { results := [.lit (.bool false)], args := [d] }
  | _ => none }
def FnExactRoadsNfaWrongFalsely : Prop := fnExactRoadsNfaRow.holds Try.pinned (OpenSpec.ofChange fnExactRoadsNfaWrong)

/-- 'laws.FnCheapestWord': WHATEVER THE INPUT: true; the input reads as it did. -/
def fnCheapestWordSpec : ChangeSpec := { name := "fnCheapestWord", fn := fun _ => fun
  | [d] => { results := [.lit (.bool true)], args := [d] }
  | _ => none }
def fnCheapestWordRow : OpenClaim := { program := "ytfldfcibjkhpnaa", sum := "dfc1f769a79259d6e76a142040b48114da858ba90b89ac6aae8992f35f702b0f", func := "loop.example/regularlanguages/laws.FnCheapestWord", spec := "fnCheapestWord", unfollowed := true, recurses := true, apart := false }
def FnCheapestWordSaid : Prop := fnCheapestWordRow.holds Try.pinned (OpenSpec.ofChange fnCheapestWordSpec)

/-- ITS FALSE NEIGHBOUR: 'it returns false'. Refute it at one input. -/
def fnCheapestWordWrong : ChangeSpec := { name := "fnCheapestWord", fn := fun _ => fun
  | [d] => { results := [.lit (.bool false)], args := [d] }
  | _ => none }
def FnCheapestWordWrongFalsely : Prop := fnCheapestWordRow.holds Try.pinned (OpenSpec.ofChange fnCheapestWordWrong)

/-- 'laws.FnBestCost': WHATEVER THE INPUT: true; the input reads as it did. -/
def fnBestCostSpec : ChangeSpec := { name := "fnBestCost", fn := fun _ => fun
  | [d] => { results := [.lit (.bool true)], args := [d] }
  | _ => none }
def fnBestCostRow : OpenClaim := { program := "ytfldfcibjkhpnaa", sum := "dfc1f769a79259d6e76a142040b48114da858ba90b89ac6aae8992f35f702b0f", func := "loop.example/regularlanguages/laws.FnBestCost", spec := "fnBestCost", unfollowed := true, recurses := true, apart := false }
def FnBestCostSaid : Prop := fnBestCostRow.holds Try.pinned (OpenSpec.ofChange fnBestCostSpec)

/-- ITS FALSE NEIGHBOUR: 'it returns false'. Refute it at one input. -/
def fnBestCostWrong : ChangeSpec := { name := "fnBestCost", fn := fun _ => fun
  | [d] => { results := [.lit (.bool false)], args := [d] }
  | _ => none }
def FnBestCostWrongFalsely : Prop := fnBestCostRow.holds Try.pinned (OpenSpec.ofChange fnBestCostWrong)

/- THE SECOND FORM. 'bulk': how many values and letters a reading holds, each counted each time it is reached (what is shared counts as often as it is met; a slice's spare places count too). A statement '..UptoSaid' is the law's where the arguments, and the package variables that the reading takes, are together of bulk at most 1048576: NARROWER than '..Said'. Prove '..Said' where nothing that the law and all that it calls make is longer than what came in: it says more and counts as full. Else prove '..UptoSaid'. A law counts once. -/
mutual
def uptoBulk {H : Type} : DataW H → Nat
  | .lit (.string bytes) => bytes.length + 1
  | .lit _ => 1
  | .nil => 1
  | .ptr d => uptoBulk d + 1
  | .slice elems spare => uptoBulkAll elems + uptoBulkAll spare + 1
  | .agg parts => uptoBulkAll parts + 1
  | .iface _ d => uptoBulk d + 1
  | .map entries => uptoBulkEntries entries + 1
  | .held _ => 1
def uptoBulkAll {H : Type} : List (DataW H) → Nat
  | [] => 0
  | d :: r => uptoBulk d + uptoBulkAll r
def uptoBulkEntries {H : Type} : List (Lit × DataW H) → Nat
  | [] => 0
  | x :: r => uptoBulkEntry x + uptoBulkEntries r
def uptoBulkEntry {H : Type} : Lit × DataW H → Nat
  | (.string bytes, d) => bytes.length + uptoBulk d + 1
  | (_, d) => uptoBulk d + 1
 end
def uptoSmall : (H : Type) → List (DataW H) → Bool := fun _ ds => decide (uptoBulkAll ds ≤ 1048576)
def OpenSpec.upto (s : _root_.Go.ChangeSpec) : _root_.Go.OpenSpec := { _root_.Go.OpenSpec.ofChange s with cond := some uptoSmall }

/-- 'laws.FnExactRoadsValid', WHERE WHAT IT READS IS OF BULK AT MOST 1048576: true; the input reads as it did. -/
def fnExactRoadsValidUptoRow : OpenClaim := { program := "ytfldfcibjkhpnaa", sum := "dfc1f769a79259d6e76a142040b48114da858ba90b89ac6aae8992f35f702b0f", func := "loop.example/regularlanguages/laws.FnExactRoadsValid", spec := "fnExactRoadsValid", unfollowed := true, recurses := true, apart := false, narrowed := true }
def FnExactRoadsValidUptoSaid : Prop := fnExactRoadsValidUptoRow.holds Try.pinned (OpenSpec.upto fnExactRoadsValidSpec)

/-- 'laws.FnRoadsValid', WHERE WHAT IT READS IS OF BULK AT MOST 1048576: true; the input reads as it did. -/
def fnRoadsValidUptoRow : OpenClaim := { program := "ytfldfcibjkhpnaa", sum := "dfc1f769a79259d6e76a142040b48114da858ba90b89ac6aae8992f35f702b0f", func := "loop.example/regularlanguages/laws.FnRoadsValid", spec := "fnRoadsValid", unfollowed := true, recurses := true, apart := false, narrowed := true }
def FnRoadsValidUptoSaid : Prop := fnRoadsValidUptoRow.holds Try.pinned (OpenSpec.upto fnRoadsValidSpec)

/-- 'laws.FnExactWayCount', WHERE WHAT IT READS IS OF BULK AT MOST 1048576: true; the input reads as it did. -/
def fnExactWayCountUptoRow : OpenClaim := { program := "ytfldfcibjkhpnaa", sum := "dfc1f769a79259d6e76a142040b48114da858ba90b89ac6aae8992f35f702b0f", func := "loop.example/regularlanguages/laws.FnExactWayCount", spec := "fnExactWayCount", unfollowed := true, recurses := true, apart := false, narrowed := true }
def FnExactWayCountUptoSaid : Prop := fnExactWayCountUptoRow.holds Try.pinned (OpenSpec.upto fnExactWayCountSpec)

/-- 'laws.FnWayCount', WHERE WHAT IT READS IS OF BULK AT MOST 1048576: true; the input reads as it did. -/
def fnWayCountUptoRow : OpenClaim := { program := "ytfldfcibjkhpnaa", sum := "dfc1f769a79259d6e76a142040b48114da858ba90b89ac6aae8992f35f702b0f", func := "loop.example/regularlanguages/laws.FnWayCount", spec := "fnWayCount", unfollowed := true, recurses := true, apart := false, narrowed := true }
def FnWayCountUptoSaid : Prop := fnWayCountUptoRow.holds Try.pinned (OpenSpec.upto fnWayCountSpec)

/-- 'laws.FnRoadsNfa', WHERE WHAT IT READS IS OF BULK AT MOST 1048576: true; the input reads as it did. -/
def fnRoadsNfaUptoRow : OpenClaim := { program := "ytfldfcibjkhpnaa", sum := "dfc1f769a79259d6e76a142040b48114da858ba90b89ac6aae8992f35f702b0f", func := "loop.example/regularlanguages/laws.FnRoadsNfa", spec := "fnRoadsNfa", unfollowed := true, recurses := true, apart := false, narrowed := true }
def FnRoadsNfaUptoSaid : Prop := fnRoadsNfaUptoRow.holds Try.pinned (OpenSpec.upto fnRoadsNfaSpec)

/-- 'laws.FnExactBestCost', WHERE WHAT IT READS IS OF BULK AT MOST 1048576: true; the input reads as it did. -/
def fnExactBestCostUptoRow : OpenClaim := { program := "ytfldfcibjkhpnaa", sum := "dfc1f769a79259d6e76a142040b48114da858ba90b89ac6aae8992f35f702b0f", func := "loop.example/regularlanguages/laws.FnExactBestCost", spec := "fnExactBestCost", unfollowed := true, recurses := true, apart := false, narrowed := true }
def FnExactBestCostUptoSaid : Prop := fnExactBestCostUptoRow.holds Try.pinned (OpenSpec.upto fnExactBestCostSpec)

/-- 'laws.FnRoadsMore', WHERE WHAT IT READS IS OF BULK AT MOST 1048576: true; the input reads as it did. -/
def fnRoadsMoreUptoRow : OpenClaim := { program := "ytfldfcibjkhpnaa", sum := "dfc1f769a79259d6e76a142040b48114da858ba90b89ac6aae8992f35f702b0f", func := "loop.example/regularlanguages/laws.FnRoadsMore", spec := "fnRoadsMore", unfollowed := true, recurses := true, apart := false, narrowed := true }
def FnRoadsMoreUptoSaid : Prop := fnRoadsMoreUptoRow.holds Try.pinned (OpenSpec.upto fnRoadsMoreSpec)

/-- 'laws.FnExactCheapestWord', WHERE WHAT IT READS IS OF BULK AT MOST 1048576: true; the input reads as it did. -/
def fnExactCheapestWordUptoRow : OpenClaim := { program := "ytfldfcibjkhpnaa", sum := "dfc1f769a79259d6e76a142040b48114da858ba90b89ac6aae8992f35f702b0f", func := "loop.example/regularlanguages/laws.FnExactCheapestWord", spec := "fnExactCheapestWord", unfollowed := true, recurses := true, apart := false, narrowed := true }
def FnExactCheapestWordUptoSaid : Prop := fnExactCheapestWordUptoRow.holds Try.pinned (OpenSpec.upto fnExactCheapestWordSpec)

/-- 'laws.FnExactRoadsNfa', WHERE WHAT IT READS IS OF BULK AT MOST 1048576: true; the input reads as it did. -/
def fnExactRoadsNfaUptoRow : OpenClaim := { program := "ytfldfcibjkhpnaa", sum := "dfc1f769a79259d6e76a142040b48114da858ba90b89ac6aae8992f35f702b0f", func := "loop.example/regularlanguages/laws.FnExactRoadsNfa", spec := "fnExactRoadsNfa", unfollowed := true, recurses := true, apart := false, narrowed := true }
def FnExactRoadsNfaUptoSaid : Prop := fnExactRoadsNfaUptoRow.holds Try.pinned (OpenSpec.upto fnExactRoadsNfaSpec)

/-- 'laws.FnCheapestWord', WHERE WHAT IT READS IS OF BULK AT MOST 1048576: true; the input reads as it did. -/
def fnCheapestWordUptoRow : OpenClaim := { program := "ytfldfcibjkhpnaa", sum := "dfc1f769a79259d6e76a142040b48114da858ba90b89ac6aae8992f35f702b0f", func := "loop.example/regularlanguages/laws.FnCheapestWord", spec := "fnCheapestWord", unfollowed := true, recurses := true, apart := false, narrowed := true }
def FnCheapestWordUptoSaid : Prop := fnCheapestWordUptoRow.holds Try.pinned (OpenSpec.upto fnCheapestWordSpec)

/-- 'laws.FnBestCost', WHERE WHAT IT READS IS OF BULK AT MOST 1048576: true; the input reads as it did. -/
def fnBestCostUptoRow : OpenClaim := { program := "ytfldfcibjkhpnaa", sum := "dfc1f769a79259d6e76a142040b48114da858ba90b89ac6aae8992f35f702b0f", func := "loop.example/regularlanguages/laws.FnBestCost", spec := "fnBestCost", unfollowed := true, recurses := true, apart := false, narrowed := true }
def FnBestCostUptoSaid : Prop := fnBestCostUptoRow.holds Try.pinned (OpenSpec.upto fnBestCostSpec)

end Rows
end Go.Proofs.Ytfldfcibjkhpnaa
