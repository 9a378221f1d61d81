/-
  No cell of these rows narrows 'for every input' (looked for: loops, veiled, ifaces, maps, wideKeys, modest, calm, conditions, laid).
  DERIVED. THE GIVEN ROWS OF THIS SEAT. 10 by the template 'for every input the law returns true; each argument reads behind the call as it read before'; 0 by the template 'total and deterministic' (their statements: YtpecepipllbghaaTotals.lean).
  GIVEN WITH THE SEED: the statements are not yours to turn. If you find one false, say at which input.
  Laid BY PROGRAM, IN A SANDBOX (cutbox-rows.mjs): the forced cells as the released guide's own fill.sh prints them over the translation 87bd0d813e89ae43… (all of the seat's roots in one cut). By AI agents, Wed Nov 11 2026. No macro, syntax, notation, axiom, sorry.
-/
import Derived.Test.YtpecepipllbghaaChecked
import GoSem.Claim
import GoSem.ClaimJoined
import GoSem.ClaimMapViews
import Derived.JoinedTies
import Derived.KernelRfl
namespace Go.Proofs.Ytpecepipllbghaa
/- THE CELL 'sum', in the pinned program and in every row, IS THE sha256 OF THE DUMP (.gsa) THAT YtpecepipllbghaaProg.lean LOADS. Nothing in Lean hashes anything: it is a label: what it is worth is what the hold of that sum in a sandbox is worth. -/
noncomputable def Try.pinned : Pinned := { name := "ytpecepipllbghaa", sum := "87bd0d813e89ae4389affff087ffa253cad9106e6ba790efa52c2e1113e29318", checked := Try.checked }
namespace Rows
def none {H : Type} : Left H := { results := [], args := [] }

/-- 'laws.FnNextToken': WHATEVER THE INPUT: true; the input reads as it did. -/
def fnNextTokenSpec : ChangeSpec := { name := "fnNextToken", fn := fun _ => fun
  | [d] => { results := [.lit (.bool true)], args := [d] }
  | _ => none }
def fnNextTokenRow : OpenClaim := { program := "ytpecepipllbghaa", sum := "87bd0d813e89ae4389affff087ffa253cad9106e6ba790efa52c2e1113e29318", func := "loop.example/regularlanguages/laws.FnNextToken", spec := "fnNextToken", unfollowed := true, recurses := true, plainKeys := false, apart := false }
def FnNextTokenSaid : Prop := fnNextTokenRow.holds Try.pinned (OpenSpec.ofChange fnNextTokenSpec)

/-- ITS FALSE NEIGHBOUR: 'it returns false'. Refute it at one input. -/
def fnNextTokenWrong : ChangeSpec := { name := "fnNextToken", fn := fun _ => fun
  | [d] => { results := [.lit (.bool false)], args := [d] }
  | _ => none }
def FnNextTokenWrongFalsely : Prop := fnNextTokenRow.holds Try.pinned (OpenSpec.ofChange fnNextTokenWrong)

/-- 'laws.FnTokens': WHATEVER THE INPUT: true; the input reads as it did. -/
def fnTokensSpec : ChangeSpec := { name := "fnTokens", fn := fun _ => fun
  | [d] => { results := [.lit (.bool true)], args := [d] }
  | _ => none }
def fnTokensRow : OpenClaim := { program := "ytpecepipllbghaa", sum := "87bd0d813e89ae4389affff087ffa253cad9106e6ba790efa52c2e1113e29318", func := "loop.example/regularlanguages/laws.FnTokens", spec := "fnTokens", unfollowed := true, recurses := true, plainKeys := false, apart := false }
def FnTokensSaid : Prop := fnTokensRow.holds Try.pinned (OpenSpec.ofChange fnTokensSpec)

/-- ITS FALSE NEIGHBOUR: 'it returns false'. Refute it at one input. -/
def fnTokensWrong : ChangeSpec := { name := "fnTokens", fn := fun _ => fun
  | [d] => { results := [.lit (.bool false)], args := [d] }
  | _ => none }
def FnTokensWrongFalsely : Prop := fnTokensRow.holds Try.pinned (OpenSpec.ofChange fnTokensWrong)

/-- 'laws.FnTokensFirst': WHATEVER THE INPUT: true; the input reads as it did. -/
def fnTokensFirstSpec : ChangeSpec := { name := "fnTokensFirst", fn := fun _ => fun
  | [d] => { results := [.lit (.bool true)], args := [d] }
  | _ => none }
def fnTokensFirstRow : OpenClaim := { program := "ytpecepipllbghaa", sum := "87bd0d813e89ae4389affff087ffa253cad9106e6ba790efa52c2e1113e29318", func := "loop.example/regularlanguages/laws.FnTokensFirst", spec := "fnTokensFirst", unfollowed := true, recurses := true, plainKeys := false, apart := false }
def FnTokensFirstSaid : Prop := fnTokensFirstRow.holds Try.pinned (OpenSpec.ofChange fnTokensFirstSpec)

/-- ITS FALSE NEIGHBOUR: 'it returns false'. Refute it at one input. -/
def fnTokensFirstWrong : ChangeSpec := { name := "fnTokensFirst", fn := fun _ => fun
  | [d] => { results := [.lit (.bool false)], args := [d] }
  | _ => none }
def FnTokensFirstWrongFalsely : Prop := fnTokensFirstRow.holds Try.pinned (OpenSpec.ofChange fnTokensFirstWrong)

/-- 'laws.FnTokensParts': WHATEVER THE INPUT: true; the input reads as it did. -/
def fnTokensPartsSpec : ChangeSpec := { name := "fnTokensParts", fn := fun _ => fun
  | [d] => { results := [.lit (.bool true)], args := [d] }
  | _ => none }
def fnTokensPartsRow : OpenClaim := { program := "ytpecepipllbghaa", sum := "87bd0d813e89ae4389affff087ffa253cad9106e6ba790efa52c2e1113e29318", func := "loop.example/regularlanguages/laws.FnTokensParts", spec := "fnTokensParts", unfollowed := true, recurses := true, plainKeys := false, apart := false }
def FnTokensPartsSaid : Prop := fnTokensPartsRow.holds Try.pinned (OpenSpec.ofChange fnTokensPartsSpec)

/-- ITS FALSE NEIGHBOUR: 'it returns false'. Refute it at one input. -/
def fnTokensPartsWrong : ChangeSpec := { name := "fnTokensParts", fn := fun _ => fun
  | [d] => { results := [.lit (.bool false)], args := [d] }
  | _ => none }
def FnTokensPartsWrongFalsely : Prop := fnTokensPartsRow.holds Try.pinned (OpenSpec.ofChange fnTokensPartsWrong)

/-- 'laws.FnDfaStarts': WHATEVER THE INPUT: true; the input reads as it did. -/
def fnDfaStartsSpec : ChangeSpec := { name := "fnDfaStarts", fn := fun _ => fun
  | [d1, d2] => { results := [.lit (.bool true)], args := [d1, d2] }
  | _ => none }
def fnDfaStartsRow : OpenClaim := { program := "ytpecepipllbghaa", sum := "87bd0d813e89ae4389affff087ffa253cad9106e6ba790efa52c2e1113e29318", func := "loop.example/regularlanguages/laws.FnDfaStarts", spec := "fnDfaStarts", unfollowed := true, recurses := true, plainKeys := false, apart := false }
def FnDfaStartsSaid : Prop := fnDfaStartsRow.holds Try.pinned (OpenSpec.ofChange fnDfaStartsSpec)

/-- ITS FALSE NEIGHBOUR: 'it returns false'. Refute it at one input. -/
def fnDfaStartsWrong : ChangeSpec := { name := "fnDfaStarts", fn := fun _ => fun
  | [d1, d2] => { results := [.lit (.bool false)], args := [d1, d2] }
  | _ => none }
def FnDfaStartsWrongFalsely : Prop := fnDfaStartsRow.holds Try.pinned (OpenSpec.ofChange fnDfaStartsWrong)

/-- 'laws.FnAfterJoin': WHATEVER THE INPUT: true; the input reads as it did. -/
def fnAfterJoinSpec : ChangeSpec := { name := "fnAfterJoin", fn := fun _ => fun
  | [d] => { results := [.lit (.bool true)], args := [d] }
  | _ => none }
def fnAfterJoinRow : OpenClaim := { program := "ytpecepipllbghaa", sum := "87bd0d813e89ae4389affff087ffa253cad9106e6ba790efa52c2e1113e29318", func := "loop.example/regularlanguages/laws.FnAfterJoin", spec := "fnAfterJoin", unfollowed := true, recurses := true, plainKeys := false, apart := false }
def FnAfterJoinSaid : Prop := fnAfterJoinRow.holds Try.pinned (OpenSpec.ofChange fnAfterJoinSpec)

/-- ITS FALSE NEIGHBOUR: 'it returns false'. Refute it at one input. -/
def fnAfterJoinWrong : ChangeSpec := { name := "fnAfterJoin", fn := fun _ => fun
  | [d] => { results := [.lit (.bool false)], args := [d] }
  | _ => none }
def FnAfterJoinWrongFalsely : Prop := fnAfterJoinRow.holds Try.pinned (OpenSpec.ofChange fnAfterJoinWrong)

/-- 'laws.FnBackOther': WHATEVER THE INPUT: true; the input reads as it did. -/
def fnBackOtherSpec : ChangeSpec := { name := "fnBackOther", fn := fun _ => fun
  | [d] => { results := [.lit (.bool true)], args := [d] }
  | _ => none }
def fnBackOtherRow : OpenClaim := { program := "ytpecepipllbghaa", sum := "87bd0d813e89ae4389affff087ffa253cad9106e6ba790efa52c2e1113e29318", func := "loop.example/regularlanguages/laws.FnBackOther", spec := "fnBackOther", unfollowed := true, recurses := true, plainKeys := false, apart := false }
def FnBackOtherSaid : Prop := fnBackOtherRow.holds Try.pinned (OpenSpec.ofChange fnBackOtherSpec)

/-- ITS FALSE NEIGHBOUR: 'it returns false'. Refute it at one input. -/
def fnBackOtherWrong : ChangeSpec := { name := "fnBackOther", fn := fun _ => fun
  | [d] => { results := [.lit (.bool false)], args := [d] }
  | _ => none }
def FnBackOtherWrongFalsely : Prop := fnBackOtherRow.holds Try.pinned (OpenSpec.ofChange fnBackOtherWrong)

/-- 'laws.FnBackChain': WHATEVER THE INPUT: true; the input reads as it did. -/
def fnBackChainSpec : ChangeSpec := { name := "fnBackChain", fn := fun _ => fun
  | [d1, d2] => { results := [.lit (.bool true)], args := [d1, d2] }
  | _ => none }
def fnBackChainRow : OpenClaim := { program := "ytpecepipllbghaa", sum := "87bd0d813e89ae4389affff087ffa253cad9106e6ba790efa52c2e1113e29318", func := "loop.example/regularlanguages/laws.FnBackChain", spec := "fnBackChain", unfollowed := true, recurses := true, plainKeys := false, apart := false }
def FnBackChainSaid : Prop := fnBackChainRow.holds Try.pinned (OpenSpec.ofChange fnBackChainSpec)

/-- ITS FALSE NEIGHBOUR: 'it returns false'. Refute it at one input. -/
def fnBackChainWrong : ChangeSpec := { name := "fnBackChain", fn := fun _ => fun
  | [d1, d2] => { results := [.lit (.bool false)], args := [d1, d2] }
  | _ => none }
def FnBackChainWrongFalsely : Prop := fnBackChainRow.holds Try.pinned (OpenSpec.ofChange fnBackChainWrong)

/-- 'laws.FnExactRewriteBack': WHATEVER THE INPUT: true; the input reads as it did. -/
def fnExactRewriteBackSpec : ChangeSpec := { name := "fnExactRewriteBack", fn := fun _ => fun
  | [d1, d2] => { results := [.lit (.bool true)], args := [d1, d2] }
  | _ => none }
def fnExactRewriteBackRow : OpenClaim := { program := "ytpecepipllbghaa", sum := "87bd0d813e89ae4389affff087ffa253cad9106e6ba790efa52c2e1113e29318", func := "loop.example/regularlanguages/laws.FnExactRewriteBack", spec := "fnExactRewriteBack", unfollowed := true, recurses := true, plainKeys := false, apart := false }
def FnExactRewriteBackSaid : Prop := fnExactRewriteBackRow.holds Try.pinned (OpenSpec.ofChange fnExactRewriteBackSpec)

/-- ITS FALSE NEIGHBOUR: 'it returns false'. Refute it at one input. -/
def fnExactRewriteBackWrong : ChangeSpec := { name := "fnExactRewriteBack", fn := fun _ => fun
  | [d1, d2] => { results := [.lit (.bool false)], args := [d1, d2] }
  | _ => none }
def FnExactRewriteBackWrongFalsely : Prop := fnExactRewriteBackRow.holds Try.pinned (OpenSpec.ofChange fnExactRewriteBackWrong)

/-- 'laws.FnExactDfaAfter': WHATEVER THE INPUT: true; the input reads as it did. -/
def fnExactDfaAfterSpec : ChangeSpec := { name := "fnExactDfaAfter", fn := fun _ => fun
  | [d1, d2] => { results := [.lit (.bool true)], args := [d1, d2] }
  | _ => none }
def fnExactDfaAfterRow : OpenClaim := { program := "ytpecepipllbghaa", sum := "87bd0d813e89ae4389affff087ffa253cad9106e6ba790efa52c2e1113e29318", func := "loop.example/regularlanguages/laws.FnExactDfaAfter", spec := "fnExactDfaAfter", unfollowed := true, recurses := true, plainKeys := false, apart := false }
def FnExactDfaAfterSaid : Prop := fnExactDfaAfterRow.holds Try.pinned (OpenSpec.ofChange fnExactDfaAfterSpec)

/-- ITS FALSE NEIGHBOUR: 'it returns false'. Refute it at one input. -/
def fnExactDfaAfterWrong : ChangeSpec := { name := "fnExactDfaAfter", fn := fun _ => fun
  | [d1, d2] => { results := [.lit (.bool false)], args := [d1, d2] }
  | _ => none }
def FnExactDfaAfterWrongFalsely : Prop := fnExactDfaAfterRow.holds Try.pinned (OpenSpec.ofChange fnExactDfaAfterWrong)

/- THE SECOND FORM. 'bulk': how many values and letters a reading holds, each counted each time it is reached (what is shared counts as often as it is met; a slice's spare places count too). A statement '..UptoSaid' is the law's where the arguments, and the package variables that the reading takes, are together of bulk at most 1048576: NARROWER than '..Said'. Prove '..Said' where nothing that the law and all that it calls make is longer than what came in: it says more and counts as full. Else prove '..UptoSaid'. A law counts once. -/
mutual
def uptoBulk {H : Type} : DataW H → Nat
  | .lit (.string bytes) => bytes.length + 1
  | .lit _ => 1
  | .nil => 1
  | .ptr d => uptoBulk d + 1
  | .slice elems spare => uptoBulkAll elems + uptoBulkAll spare + 1
  | .agg parts => uptoBulkAll parts + 1
  | .iface _ d => uptoBulk d + 1
  | .map entries => uptoBulkEntries entries + 1
  | .held _ => 1
def uptoBulkAll {H : Type} : List (DataW H) → Nat
  | [] => 0
  | d :: r => uptoBulk d + uptoBulkAll r
def uptoBulkEntries {H : Type} : List (Lit × DataW H) → Nat
  | [] => 0
  | x :: r => uptoBulkEntry x + uptoBulkEntries r
def uptoBulkEntry {H : Type} : Lit × DataW H → Nat
  | (.string bytes, d) => bytes.length + uptoBulk d + 1
  | (_, d) => uptoBulk d + 1
 end
def uptoSmall : (H : Type) → List (DataW H) → Bool := fun _ ds => decide (uptoBulkAll ds ≤ 1048576)
def OpenSpec.upto (s : _root_.Go.ChangeSpec) : _root_.Go.OpenSpec := { _root_.Go.OpenSpec.ofChange s with cond := some uptoSmall }

/-- 'laws.FnNextToken', WHERE WHAT IT READS IS OF BULK AT MOST 1048576: true; the input reads as it did. -/
def fnNextTokenUptoRow : OpenClaim := { program := "ytpecepipllbghaa", sum := "87bd0d813e89ae4389affff087ffa253cad9106e6ba790efa52c2e1113e29318", func := "loop.example/regularlanguages/laws.FnNextToken", spec := "fnNextToken", unfollowed := true, recurses := true, plainKeys := false, apart := false, narrowed := true }
def FnNextTokenUptoSaid : Prop := fnNextTokenUptoRow.holds Try.pinned (OpenSpec.upto fnNextTokenSpec)

/-- 'laws.FnTokens', WHERE WHAT IT READS IS OF BULK AT MOST 1048576: true; the input reads as it did. -/
def fnTokensUptoRow : OpenClaim := { program := "ytpecepipllbghaa", sum := "87bd0d813e89ae4389affff087ffa253cad9106e6ba790efa52c2e1113e29318", func := "loop.example/regularlanguages/laws.FnTokens", spec := "fnTokens", unfollowed := true, recurses := true, plainKeys := false, apart := false, narrowed := true }
def FnTokensUptoSaid : Prop := fnTokensUptoRow.holds Try.pinned (OpenSpec.upto fnTokensSpec)

/-- 'laws.FnTokensFirst', WHERE WHAT IT READS IS OF BULK AT MOST 1048576: true; the input reads as it did. -/
def fnTokensFirstUptoRow : OpenClaim := { program := "ytpecepipllbghaa", sum := "87bd0d813e89ae4389affff087ffa253cad9106e6ba790efa52c2e1113e29318", func := "loop.example/regularlanguages/laws.FnTokensFirst", spec := "fnTokensFirst", unfollowed := true, recurses := true, plainKeys := false, apart := false, narrowed := true }
def FnTokensFirstUptoSaid : Prop := fnTokensFirstUptoRow.holds Try.pinned (OpenSpec.upto fnTokensFirstSpec)

/-- 'laws.FnTokensParts', WHERE WHAT IT READS IS OF BULK AT MOST 1048576: true; the input reads as it did. -/
def fnTokensPartsUptoRow : OpenClaim := { program := "ytpecepipllbghaa", sum := "87bd0d813e89ae4389affff087ffa253cad9106e6ba790efa52c2e1113e29318", func := "loop.example/regularlanguages/laws.FnTokensParts", spec := "fnTokensParts", unfollowed := true, recurses := true, plainKeys := false, apart := false, narrowed := true }
def FnTokensPartsUptoSaid : Prop := fnTokensPartsUptoRow.holds Try.pinned (OpenSpec.upto fnTokensPartsSpec)

/-- 'laws.FnDfaStarts', WHERE WHAT IT READS IS OF BULK AT MOST 1048576: true; the input reads as it did. -/
def fnDfaStartsUptoRow : OpenClaim := { program := "ytpecepipllbghaa", sum := "87bd0d813e89ae4389affff087ffa253cad9106e6ba790efa52c2e1113e29318", func := "loop.example/regularlanguages/laws.FnDfaStarts", spec := "fnDfaStarts", unfollowed := true, recurses := true, plainKeys := false, apart := false, narrowed := true }
def FnDfaStartsUptoSaid : Prop := fnDfaStartsUptoRow.holds Try.pinned (OpenSpec.upto fnDfaStartsSpec)

/-- 'laws.FnAfterJoin', WHERE WHAT IT READS IS OF BULK AT MOST 1048576: true; the input reads as it did. -/
def fnAfterJoinUptoRow : OpenClaim := { program := "ytpecepipllbghaa", sum := "87bd0d813e89ae4389affff087ffa253cad9106e6ba790efa52c2e1113e29318", func := "loop.example/regularlanguages/laws.FnAfterJoin", spec := "fnAfterJoin", unfollowed := true, recurses := true, plainKeys := false, apart := false, narrowed := true }
def FnAfterJoinUptoSaid : Prop := fnAfterJoinUptoRow.holds Try.pinned (OpenSpec.upto fnAfterJoinSpec)

/-- 'laws.FnBackOther', WHERE WHAT IT READS IS OF BULK AT MOST 1048576: true; the input reads as it did. -/
def fnBackOtherUptoRow : OpenClaim := { program := "ytpecepipllbghaa", sum := "87bd0d813e89ae4389affff087ffa253cad9106e6ba790efa52c2e1113e29318", func := "loop.example/regularlanguages/laws.FnBackOther", spec := "fnBackOther", unfollowed := true, recurses := true, plainKeys := false, apart := false, narrowed := true }
def FnBackOtherUptoSaid : Prop := fnBackOtherUptoRow.holds Try.pinned (OpenSpec.upto fnBackOtherSpec)

/-- 'laws.FnBackChain', WHERE WHAT IT READS IS OF BULK AT MOST 1048576: true; the input reads as it did. -/
def fnBackChainUptoRow : OpenClaim := { program := "ytpecepipllbghaa", sum := "87bd0d813e89ae4389affff087ffa253cad9106e6ba790efa52c2e1113e29318", func := "loop.example/regularlanguages/laws.FnBackChain", spec := "fnBackChain", unfollowed := true, recurses := true, plainKeys := false, apart := false, narrowed := true }
def FnBackChainUptoSaid : Prop := fnBackChainUptoRow.holds Try.pinned (OpenSpec.upto fnBackChainSpec)

/-- 'laws.FnExactRewriteBack', WHERE WHAT IT READS IS OF BULK AT MOST 1048576: true; the input reads as it did. -/
def fnExactRewriteBackUptoRow : OpenClaim := { program := "ytpecepipllbghaa", sum := "87bd0d813e89ae4389affff087ffa253cad9106e6ba790efa52c2e1113e29318", func := "loop.example/regularlanguages/laws.FnExactRewriteBack", spec := "fnExactRewriteBack", unfollowed := true, recurses := true, plainKeys := false, apart := false, narrowed := true }
def FnExactRewriteBackUptoSaid : Prop := fnExactRewriteBackUptoRow.holds Try.pinned (OpenSpec.upto fnExactRewriteBackSpec)

/-- 'laws.FnExactDfaAfter', WHERE WHAT IT READS IS OF BULK AT MOST 1048576: true; the input reads as it did. -/
def fnExactDfaAfterUptoRow : OpenClaim := { program := "ytpecepipllbghaa", sum := "87bd0d813e89ae4389affff087ffa253cad9106e6ba790efa52c2e1113e29318", func := "loop.example/regularlanguages/laws.FnExactDfaAfter", spec := "fnExactDfaAfter", unfollowed := true, recurses := true, plainKeys := false, apart := false, narrowed := true }
def FnExactDfaAfterUptoSaid : Prop := fnExactDfaAfterUptoRow.holds Try.pinned (OpenSpec.upto fnExactDfaAfterSpec)

end Rows
end Go.Proofs.Ytpecepipllbghaa
