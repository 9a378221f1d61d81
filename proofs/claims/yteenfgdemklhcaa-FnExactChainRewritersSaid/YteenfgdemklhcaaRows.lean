/-
  No cell of these rows narrows 'for every input' (looked for: loops, veiled, ifaces, maps, wideKeys, modest, calm, conditions, laid).
  DERIVED. THE GIVEN ROWS OF THIS SEAT. 3 by the template 'for every input the law returns true; each argument reads behind the call as it read before'; 0 by the template 'total and deterministic' (their statements: YteenfgdemklhcaaTotals.lean).
  GIVEN WITH THE SEED: the statements are not yours to turn. If you find one false, say at which input.
  Laid BY PROGRAM, IN A SANDBOX (cutbox-rows.mjs): the forced cells as the released guide's own fill.sh prints them over the translation b6a8bc7c8baad6e3… (all of the seat's roots in one cut). By AI agents, Wed Nov 11 2026. No macro, syntax, notation, axiom, sorry.
-/
import Derived.Test.YteenfgdemklhcaaChecked
import GoSem.Claim
import GoSem.ClaimJoined
import GoSem.ClaimMapViews
import Derived.JoinedTies
import Derived.KernelRfl
namespace Go.Proofs.Yteenfgdemklhcaa
/- THE CELL 'sum', in the pinned program and in every row, IS THE sha256 OF THE DUMP (.gsa) THAT YteenfgdemklhcaaProg.lean LOADS. Nothing in Lean hashes anything: it is a label: what it is worth is what the hold of that sum in a sandbox is worth. -/
noncomputable def Try.pinned : Pinned := { name := "yteenfgdemklhcaa", sum := "b6a8bc7c8baad6e37a2bbfdfc1d6ba007008ff5efa0afe47c8f4ab9a0d920863", checked := Try.checked }
namespace Rows
def none {H : Type} : Left H := { results := [], args := [] }

/-- 'laws.FnExactDfaAfter': WHATEVER THE INPUT: true; the input reads as it did. -/
def fnExactDfaAfterSpec : ChangeSpec := { name := "fnExactDfaAfter", fn := fun _ => fun
  | [d1, d2] => { results := [.lit (.bool true)], args := [d1, d2] }
  | _ => none }
def fnExactDfaAfterRow : OpenClaim := { program := "yteenfgdemklhcaa", sum := "b6a8bc7c8baad6e37a2bbfdfc1d6ba007008ff5efa0afe47c8f4ab9a0d920863", func := "loop.example/regularlanguages/laws.FnExactDfaAfter", spec := "fnExactDfaAfter", unfollowed := true, recurses := true, plainKeys := false, apart := false }
def FnExactDfaAfterSaid : Prop := fnExactDfaAfterRow.holds Try.pinned (OpenSpec.ofChange fnExactDfaAfterSpec)

/-- ITS FALSE NEIGHBOUR: 'it returns false'. Refute it at one input. -/
def fnExactDfaAfterWrong : ChangeSpec := { name := "fnExactDfaAfter", fn := fun _ => fun
  | [d1, d2] => { results := [.lit (.bool false)], args := [d1, d2] }
  | _ => none }
def FnExactDfaAfterWrongFalsely : Prop := fnExactDfaAfterRow.holds Try.pinned (OpenSpec.ofChange fnExactDfaAfterWrong)

/-- 'laws.FnExactChainRewriters': WHATEVER THE INPUT: true; the input reads as it did. -/
def fnExactChainRewritersSpec : ChangeSpec := { name := "fnExactChainRewriters", fn := fun _ => fun
  | [d1, d2] => { results := [.lit (.bool true)], args := [d1, d2] }
  | _ => none }
def fnExactChainRewritersRow : OpenClaim := { program := "yteenfgdemklhcaa", sum := "b6a8bc7c8baad6e37a2bbfdfc1d6ba007008ff5efa0afe47c8f4ab9a0d920863", func := "loop.example/regularlanguages/laws.FnExactChainRewriters", spec := "fnExactChainRewriters", unfollowed := true, recurses := true, plainKeys := false, apart := false }
def FnExactChainRewritersSaid : Prop := fnExactChainRewritersRow.holds Try.pinned (OpenSpec.ofChange fnExactChainRewritersSpec)

/-- ITS FALSE NEIGHBOUR: 'it returns false'. Refute it at one input. -/
def fnExactChainRewritersWrong : ChangeSpec := { name := "fnExactChainRewriters", fn := fun _ => fun
  | [d1, d2] => { results := [.lit (.bool false)], args := [d1, d2] }
  | _ => none }
def FnExactChainRewritersWrongFalsely : Prop := fnExactChainRewritersRow.holds Try.pinned (OpenSpec.ofChange fnExactChainRewritersWrong)

/-- 'laws.FnExactRewriteBack': WHATEVER THE INPUT: true; the input reads as it did. -/
def fnExactRewriteBackSpec : ChangeSpec := { name := "fnExactRewriteBack", fn := fun _ => fun
  | [d1, d2] => { results := [.lit (.bool true)], args := [d1, d2] }
  | _ => none }
def fnExactRewriteBackRow : OpenClaim := { program := "yteenfgdemklhcaa", sum := "b6a8bc7c8baad6e37a2bbfdfc1d6ba007008ff5efa0afe47c8f4ab9a0d920863", func := "loop.example/regularlanguages/laws.FnExactRewriteBack", spec := "fnExactRewriteBack", unfollowed := true, recurses := true, plainKeys := false, apart := false }
def FnExactRewriteBackSaid : Prop := fnExactRewriteBackRow.holds Try.pinned (OpenSpec.ofChange fnExactRewriteBackSpec)

/-- ITS FALSE NEIGHBOUR: 'it returns false'. Refute it at one input. -/
def fnExactRewriteBackWrong : ChangeSpec := { name := "fnExactRewriteBack", fn := fun _ => fun
  | [d1, d2] => { results := [.lit (.bool false)], args := [d1, d2] }
  | _ => none }
def FnExactRewriteBackWrongFalsely : Prop := fnExactRewriteBackRow.holds Try.pinned (OpenSpec.ofChange fnExactRewriteBackWrong)

/- THE SECOND FORM. 'bulk': how many values and letters a reading holds, each counted each time it is reached (what is shared counts as often as it is met; a slice's spare places count too). A statement '..UptoSaid' is the law's where the arguments, and the package variables that the reading takes, are together of bulk at most 1048576: NARROWER than '..Said'. Prove '..Said' where nothing that the law and all that it calls make is longer than what came in: it says more and counts as full. Else prove '..UptoSaid'. A law counts once. -/
mutual
def uptoBulk {H : Type} : DataW H → Nat
  | .lit (.string bytes) => bytes.length + 1
  | .lit _ => 1
  | .nil => 1
  | .ptr d => uptoBulk d + 1
  | .slice elems spare => uptoBulkAll elems + uptoBulkAll spare + 1
  | .agg parts => uptoBulkAll parts + 1
  | .iface _ d => uptoBulk d + 1
  | .map entries => uptoBulkEntries entries + 1
  | .held _ => 1
def uptoBulkAll {H : Type} : List (DataW H) → Nat
  | [] => 0
  | d :: r => uptoBulk d + uptoBulkAll r
def uptoBulkEntries {H : Type} : List (Lit × DataW H) → Nat
  | [] => 0
  | x :: r => uptoBulkEntry x + uptoBulkEntries r
def uptoBulkEntry {H : Type} : Lit × DataW H → Nat
  | (.string bytes, d) => bytes.length + uptoBulk d + 1
  | (_, d) => uptoBulk d + 1
 end
def uptoSmall : (H : Type) → List (DataW H) → Bool := fun _ ds => decide (uptoBulkAll ds ≤ 1048576)
def OpenSpec.upto (s : _root_.Go.ChangeSpec) : _root_.Go.OpenSpec := { _root_.Go.OpenSpec.ofChange s with cond := some uptoSmall }

/-- 'laws.FnExactDfaAfter', WHERE WHAT IT READS IS OF BULK AT MOST 1048576: true; the input reads as it did. -/
def fnExactDfaAfterUptoRow : OpenClaim := { program := "yteenfgdemklhcaa", sum := "b6a8bc7c8baad6e37a2bbfdfc1d6ba007008ff5efa0afe47c8f4ab9a0d920863", func := "loop.example/regularlanguages/laws.FnExactDfaAfter", spec := "fnExactDfaAfter", unfollowed := true, recurses := true, plainKeys := false, apart := false, narrowed := true }
def FnExactDfaAfterUptoSaid : Prop := fnExactDfaAfterUptoRow.holds Try.pinned (OpenSpec.upto fnExactDfaAfterSpec)

/-- 'laws.FnExactChainRewriters', WHERE WHAT IT READS IS OF BULK AT MOST 1048576: true; the input reads as it did. -/
def fnExactChainRewritersUptoRow : OpenClaim := { program := "yteenfgdemklhcaa", sum := "b6a8bc7c8baad6e37a2bbfdfc1d6ba007008ff5efa0afe47c8f4ab9a0d920863", func := "loop.example/regularlanguages/laws.FnExactChainRewriters", spec := "fnExactChainRewriters", unfollowed := true, recurses := true, plainKeys := false, apart := false, narrowed := true }
def FnExactChainRewritersUptoSaid : Prop := fnExactChainRewritersUptoRow.holds Try.pinned (OpenSpec.upto fnExactChainRewritersSpec)

/-- 'laws.FnExactRewriteBack', WHERE WHAT IT READS IS OF BULK AT MOST 1048576: true; the input reads as it did. -/
def fnExactRewriteBackUptoRow : OpenClaim := { program := "yteenfgdemklhcaa", sum := "b6a8bc7c8baad6e37a2bbfdfc1d6ba007008ff5efa0afe47c8f4ab9a0d920863", func := "loop.example/regularlanguages/laws.FnExactRewriteBack", spec := "fnExactRewriteBack", unfollowed := true, recurses := true, plainKeys := false, apart := false, narrowed := true }
def FnExactRewriteBackUptoSaid : Prop := fnExactRewriteBackUptoRow.holds Try.pinned (OpenSpec.upto fnExactRewriteBackSpec)

end Rows
end Go.Proofs.Yteenfgdemklhcaa
