/-
  No cell of these rows narrows 'for every input' (looked for: loops, veiled, ifaces, maps, wideKeys, modest, calm, conditions, laid).
  DERIVED. THE GIVEN ROWS OF THIS SEAT. 10 by the template 'for every input the law returns true; each argument reads behind the call as it read before'; 0 by the template 'total and deterministic' (their statements: YtfiipgebdcbknaaTotals.lean).
  GIVEN WITH THE SEED: the statements are not yours to turn. If you find one false, say at which input.
  Laid BY PROGRAM, IN A SANDBOX (cutbox-rows.mjs): the forced cells as the released guide's own fill.sh prints them over the translation 551990443e17c376… (all of the seat's roots in one cut). By AI agents, Wed Nov 11 2026. No macro, syntax, notation, axiom, sorry.
-/
import Derived.Test.YtfiipgebdcbknaaChecked
import GoSem.Claim
import GoSem.ClaimJoined
import GoSem.ClaimMapViews
import Derived.JoinedTies
import Derived.KernelRfl
namespace Go.Proofs.Ytfiipgebdcbknaa
/- THE CELL 'sum', in the pinned program and in every row, IS THE sha256 OF THE DUMP (.gsa) THAT YtfiipgebdcbknaaProg.lean LOADS. Nothing in Lean hashes anything: it is a label: what it is worth is what the hold of that sum in a sandbox is worth. -/
noncomputable def Try.pinned : Pinned := { name := "ytfiipgebdcbknaa", sum := "551990443e17c3761084e4a9ac1993bbb36bc561ddbe6a320879ab53b8eeedb7", checked := Try.checked }
namespace Rows
def none {H : Type} : Left H := { results := [], args := [] }

/-- 'laws.FnCopyRewriter': WHATEVER THE INPUT: true; the input reads as it did. -/
def fnCopyRewriterSpec : ChangeSpec := { name := "fnCopyRewriter", fn := fun _ => fun
  | [d] => { results := [.lit (.bool true)], args := [d] }
  | _ => none }
def fnCopyRewriterRow : OpenClaim := { program := "ytfiipgebdcbknaa", sum := "551990443e17c3761084e4a9ac1993bbb36bc561ddbe6a320879ab53b8eeedb7", func := "loop.example/regularlanguages/laws.FnCopyRewriter", spec := "fnCopyRewriter", unfollowed := true, recurses := true, plainKeys := false, apart := false }
def FnCopyRewriterSaid : Prop := fnCopyRewriterRow.holds Try.pinned (OpenSpec.ofChange fnCopyRewriterSpec)

/-- ITS FALSE NEIGHBOUR: 'it returns false'. Refute it at one input. -/
def fnCopyRewriterWrong : ChangeSpec := { name := "fnCopyRewriter", fn := fun _ => fun
  | [d] => { results := [.lit (.bool false)], args := [d] }
  | _ => none }
def FnCopyRewriterWrongFalsely : Prop := fnCopyRewriterRow.holds Try.pinned (OpenSpec.ofChange fnCopyRewriterWrong)

/-- 'laws.FnExactCopyRewriter': WHATEVER THE INPUT: true; the input reads as it did. -/
def fnExactCopyRewriterSpec : ChangeSpec := { name := "fnExactCopyRewriter", fn := fun _ => fun
  | [] => { results := [.lit (.bool true)], args := [] }
  | _ => none }
def fnExactCopyRewriterRow : OpenClaim := { program := "ytfiipgebdcbknaa", sum := "551990443e17c3761084e4a9ac1993bbb36bc561ddbe6a320879ab53b8eeedb7", func := "loop.example/regularlanguages/laws.FnExactCopyRewriter", spec := "fnExactCopyRewriter", plainKeys := false, apart := false }
def FnExactCopyRewriterSaid : Prop := fnExactCopyRewriterRow.holds Try.pinned (OpenSpec.ofChange fnExactCopyRewriterSpec)

/-- ITS FALSE NEIGHBOUR: 'it returns false'. Refute it at one input. -/
def fnExactCopyRewriterWrong : ChangeSpec := { name := "fnExactCopyRewriter", fn := fun _ => fun
  | [] => { results := [.lit (.bool false)], args := [] }
  | _ => none }
def FnExactCopyRewriterWrongFalsely : Prop := fnExactCopyRewriterRow.holds Try.pinned (OpenSpec.ofChange fnExactCopyRewriterWrong)

/-- 'laws.FnRewriterValid': WHATEVER THE INPUT: true; the input reads as it did. -/
def fnRewriterValidSpec : ChangeSpec := { name := "fnRewriterValid", fn := fun _ => fun
  | [d] => { results := [.lit (.bool true)], args := [d] }
  | _ => none }
def fnRewriterValidRow : OpenClaim := { program := "ytfiipgebdcbknaa", sum := "551990443e17c3761084e4a9ac1993bbb36bc561ddbe6a320879ab53b8eeedb7", func := "loop.example/regularlanguages/laws.FnRewriterValid", spec := "fnRewriterValid", unfollowed := true, recurses := true, plainKeys := false, apart := false }
def FnRewriterValidSaid : Prop := fnRewriterValidRow.holds Try.pinned (OpenSpec.ofChange fnRewriterValidSpec)

/-- ITS FALSE NEIGHBOUR: 'it returns false'. Refute it at one input. -/
def fnRewriterValidWrong : ChangeSpec := { name := "fnRewriterValid", fn := fun _ => fun
  | [d] => { results := [.lit (.bool false)], args := [d] }
  | _ => none }
def FnRewriterValidWrongFalsely : Prop := fnRewriterValidRow.holds Try.pinned (OpenSpec.ofChange fnRewriterValidWrong)

/-- 'laws.FnRewriteText': WHATEVER THE INPUT: true; the input reads as it did. -/
def fnRewriteTextSpec : ChangeSpec := { name := "fnRewriteText", fn := fun _ => fun
  | [d] => { results := [.lit (.bool true)], args := [d] }
  | _ => none }
def fnRewriteTextRow : OpenClaim := { program := "ytfiipgebdcbknaa", sum := "551990443e17c3761084e4a9ac1993bbb36bc561ddbe6a320879ab53b8eeedb7", func := "loop.example/regularlanguages/laws.FnRewriteText", spec := "fnRewriteText", unfollowed := true, recurses := true, plainKeys := false, apart := false }
def FnRewriteTextSaid : Prop := fnRewriteTextRow.holds Try.pinned (OpenSpec.ofChange fnRewriteTextSpec)

/-- ITS FALSE NEIGHBOUR: 'it returns false'. Refute it at one input. -/
def fnRewriteTextWrong : ChangeSpec := { name := "fnRewriteText", fn := fun _ => fun
  | [d] => { results := [.lit (.bool false)], args := [d] }
  | _ => none }
def FnRewriteTextWrongFalsely : Prop := fnRewriteTextRow.holds Try.pinned (OpenSpec.ofChange fnRewriteTextWrong)

/-- 'laws.FnExactRewriterValid': WHATEVER THE INPUT: true; the input reads as it did. -/
def fnExactRewriterValidSpec : ChangeSpec := { name := "fnExactRewriterValid", fn := fun _ => fun
  | [d] => { results := [.lit (.bool true)], args := [d] }
  | _ => none }
def fnExactRewriterValidRow : OpenClaim := { program := "ytfiipgebdcbknaa", sum := "551990443e17c3761084e4a9ac1993bbb36bc561ddbe6a320879ab53b8eeedb7", func := "loop.example/regularlanguages/laws.FnExactRewriterValid", spec := "fnExactRewriterValid", unfollowed := true, recurses := true, plainKeys := false, apart := false }
def FnExactRewriterValidSaid : Prop := fnExactRewriterValidRow.holds Try.pinned (OpenSpec.ofChange fnExactRewriterValidSpec)

/-- ITS FALSE NEIGHBOUR: 'it returns false'. Refute it at one input. -/
def fnExactRewriterValidWrong : ChangeSpec := { name := "fnExactRewriterValid", fn := fun _ => fun
  | [d] => { results := [.lit (.bool false)], args := [d] }
  | _ => none }
def FnExactRewriterValidWrongFalsely : Prop := fnExactRewriterValidRow.holds Try.pinned (OpenSpec.ofChange fnExactRewriterValidWrong)

/-- 'laws.FnExactRewriteText': WHATEVER THE INPUT: true; the input reads as it did. -/
def fnExactRewriteTextSpec : ChangeSpec := { name := "fnExactRewriteText", fn := fun _ => fun
  | [d1, d2] => { results := [.lit (.bool true)], args := [d1, d2] }
  | _ => none }
def fnExactRewriteTextRow : OpenClaim := { program := "ytfiipgebdcbknaa", sum := "551990443e17c3761084e4a9ac1993bbb36bc561ddbe6a320879ab53b8eeedb7", func := "loop.example/regularlanguages/laws.FnExactRewriteText", spec := "fnExactRewriteText", unfollowed := true, recurses := true, plainKeys := false, apart := false }
def FnExactRewriteTextSaid : Prop := fnExactRewriteTextRow.holds Try.pinned (OpenSpec.ofChange fnExactRewriteTextSpec)

/-- ITS FALSE NEIGHBOUR: 'it returns false'. Refute it at one input. -/
def fnExactRewriteTextWrong : ChangeSpec := { name := "fnExactRewriteText", fn := fun _ => fun
  | [d1, d2] => { results := [.lit (.bool false)], args := [d1, d2] }
  | _ => none }
def FnExactRewriteTextWrongFalsely : Prop := fnExactRewriteTextRow.holds Try.pinned (OpenSpec.ofChange fnExactRewriteTextWrong)

/-- 'laws.FnChainCopy': WHATEVER THE INPUT: true; the input reads as it did. -/
def fnChainCopySpec : ChangeSpec := { name := "fnChainCopy", fn := fun _ => fun
  | [d] => { results := [.lit (.bool true)], args := [d] }
  | _ => none }
def fnChainCopyRow : OpenClaim := { program := "ytfiipgebdcbknaa", sum := "551990443e17c3761084e4a9ac1993bbb36bc561ddbe6a320879ab53b8eeedb7", func := "loop.example/regularlanguages/laws.FnChainCopy", spec := "fnChainCopy", unfollowed := true, recurses := true, plainKeys := false, apart := false }
def FnChainCopySaid : Prop := fnChainCopyRow.holds Try.pinned (OpenSpec.ofChange fnChainCopySpec)

/-- ITS FALSE NEIGHBOUR: 'it returns false'. Refute it at one input. -/
def fnChainCopyWrong : ChangeSpec := { name := "fnChainCopy", fn := fun _ => fun
  | [d] => { results := [.lit (.bool false)], args := [d] }
  | _ => none }
def FnChainCopyWrongFalsely : Prop := fnChainCopyRow.holds Try.pinned (OpenSpec.ofChange fnChainCopyWrong)

/-- 'laws.FnChainThree': WHATEVER THE INPUT: true; the input reads as it did. -/
def fnChainThreeSpec : ChangeSpec := { name := "fnChainThree", fn := fun _ => fun
  | [d1, d2] => { results := [.lit (.bool true)], args := [d1, d2] }
  | _ => none }
def fnChainThreeRow : OpenClaim := { program := "ytfiipgebdcbknaa", sum := "551990443e17c3761084e4a9ac1993bbb36bc561ddbe6a320879ab53b8eeedb7", func := "loop.example/regularlanguages/laws.FnChainThree", spec := "fnChainThree", unfollowed := true, recurses := true, plainKeys := false, apart := false }
def FnChainThreeSaid : Prop := fnChainThreeRow.holds Try.pinned (OpenSpec.ofChange fnChainThreeSpec)

/-- ITS FALSE NEIGHBOUR: 'it returns false'. Refute it at one input. -/
def fnChainThreeWrong : ChangeSpec := { name := "fnChainThree", fn := fun _ => fun
  | [d1, d2] => { results := [.lit (.bool false)], args := [d1, d2] }
  | _ => none }
def FnChainThreeWrongFalsely : Prop := fnChainThreeRow.holds Try.pinned (OpenSpec.ofChange fnChainThreeWrong)

/-- 'laws.FnChainRewriters': WHATEVER THE INPUT: true; the input reads as it did. -/
def fnChainRewritersSpec : ChangeSpec := { name := "fnChainRewriters", fn := fun _ => fun
  | [d1, d2] => { results := [.lit (.bool true)], args := [d1, d2] }
  | _ => none }
def fnChainRewritersRow : OpenClaim := { program := "ytfiipgebdcbknaa", sum := "551990443e17c3761084e4a9ac1993bbb36bc561ddbe6a320879ab53b8eeedb7", func := "loop.example/regularlanguages/laws.FnChainRewriters", spec := "fnChainRewriters", unfollowed := true, recurses := true, plainKeys := false, apart := false }
def FnChainRewritersSaid : Prop := fnChainRewritersRow.holds Try.pinned (OpenSpec.ofChange fnChainRewritersSpec)

/-- ITS FALSE NEIGHBOUR: 'it returns false'. Refute it at one input. -/
def fnChainRewritersWrong : ChangeSpec := { name := "fnChainRewriters", fn := fun _ => fun
  | [d1, d2] => { results := [.lit (.bool false)], args := [d1, d2] }
  | _ => none }
def FnChainRewritersWrongFalsely : Prop := fnChainRewritersRow.holds Try.pinned (OpenSpec.ofChange fnChainRewritersWrong)

/-- 'laws.FnExactChainRewriters': WHATEVER THE INPUT: true; the input reads as it did. -/
def fnExactChainRewritersSpec : ChangeSpec := { name := "fnExactChainRewriters", fn := fun _ => fun
  | [d1, d2] => { results := [.lit (.bool true)], args := [d1, d2] }
  | _ => none }
def fnExactChainRewritersRow : OpenClaim := { program := "ytfiipgebdcbknaa", sum := "551990443e17c3761084e4a9ac1993bbb36bc561ddbe6a320879ab53b8eeedb7", func := "loop.example/regularlanguages/laws.FnExactChainRewriters", spec := "fnExactChainRewriters", unfollowed := true, recurses := true, plainKeys := false, apart := false }
def FnExactChainRewritersSaid : Prop := fnExactChainRewritersRow.holds Try.pinned (OpenSpec.ofChange fnExactChainRewritersSpec)

/-- ITS FALSE NEIGHBOUR: 'it returns false'. Refute it at one input. -/
def fnExactChainRewritersWrong : ChangeSpec := { name := "fnExactChainRewriters", fn := fun _ => fun
  | [d1, d2] => { results := [.lit (.bool false)], args := [d1, d2] }
  | _ => none }
def FnExactChainRewritersWrongFalsely : Prop := fnExactChainRewritersRow.holds Try.pinned (OpenSpec.ofChange fnExactChainRewritersWrong)

/- THE SECOND FORM. 'bulk': how many values and letters a reading holds, each counted each time it is reached (what is shared counts as often as it is met; a slice's spare places count too). A statement '..UptoSaid' is the law's where the arguments, and the package variables that the reading takes, are together of bulk at most 1048576: NARROWER than '..Said'. Prove '..Said' where nothing that the law and all that it calls make is longer than what came in: it says more and counts as full. Else prove '..UptoSaid'. A law counts once. -/
mutual
def uptoBulk {H : Type} : DataW H → Nat
  | .lit (.string bytes) => bytes.length + 1
  | .lit _ => 1
  | .nil => 1
  | .ptr d => uptoBulk d + 1
  | .slice elems spare => uptoBulkAll elems + uptoBulkAll spare + 1
  | .agg parts => uptoBulkAll parts + 1
  | .iface _ d => uptoBulk d + 1
  | .map entries => uptoBulkEntries entries + 1
  | .held _ => 1
def uptoBulkAll {H : Type} : List (DataW H) → Nat
  | [] => 0
  | d :: r => uptoBulk d + uptoBulkAll r
def uptoBulkEntries {H : Type} : List (Lit × DataW H) → Nat
  | [] => 0
  | x :: r => uptoBulkEntry x + uptoBulkEntries r
def uptoBulkEntry {H : Type} : Lit × DataW H → Nat
  | (.string bytes, d) => bytes.length + uptoBulk d + 1
  | (_, d) => uptoBulk d + 1
 end
def uptoSmall : (H : Type) → List (DataW H) → Bool := fun _ ds => decide (uptoBulkAll ds ≤ 1048576)
def OpenSpec.upto (s : _root_.Go.ChangeSpec) : _root_.Go.OpenSpec := { _root_.Go.OpenSpec.ofChange s with cond := some uptoSmall }

/-- 'laws.FnCopyRewriter', WHERE WHAT IT READS IS OF BULK AT MOST 1048576: true; the input reads as it did. -/
def fnCopyRewriterUptoRow : OpenClaim := { program := "ytfiipgebdcbknaa", sum := "551990443e17c3761084e4a9ac1993bbb36bc561ddbe6a320879ab53b8eeedb7", func := "loop.example/regularlanguages/laws.FnCopyRewriter", spec := "fnCopyRewriter", unfollowed := true, recurses := true, plainKeys := false, apart := false, narrowed := true }
def FnCopyRewriterUptoSaid : Prop := fnCopyRewriterUptoRow.holds Try.pinned (OpenSpec.upto fnCopyRewriterSpec)

/-- 'laws.FnExactCopyRewriter', WHERE WHAT IT READS IS OF BULK AT MOST 1048576: true; the input reads as it did. -/
def fnExactCopyRewriterUptoRow : OpenClaim := { program := "ytfiipgebdcbknaa", sum := "551990443e17c3761084e4a9ac1993bbb36bc561ddbe6a320879ab53b8eeedb7", func := "loop.example/regularlanguages/laws.FnExactCopyRewriter", spec := "fnExactCopyRewriter", plainKeys := false, apart := false, narrowed := true }
def FnExactCopyRewriterUptoSaid : Prop := fnExactCopyRewriterUptoRow.holds Try.pinned (OpenSpec.upto fnExactCopyRewriterSpec)

/-- 'laws.FnRewriterValid', WHERE WHAT IT READS IS OF BULK AT MOST 1048576: true; the input reads as it did. -/
def fnRewriterValidUptoRow : OpenClaim := { program := "ytfiipgebdcbknaa", sum := "551990443e17c3761084e4a9ac1993bbb36bc561ddbe6a320879ab53b8eeedb7", func := "loop.example/regularlanguages/laws.FnRewriterValid", spec := "fnRewriterValid", unfollowed := true, recurses := true, plainKeys := false, apart := false, narrowed := true }
def FnRewriterValidUptoSaid : Prop := fnRewriterValidUptoRow.holds Try.pinned (OpenSpec.upto fnRewriterValidSpec)

/-- 'laws.FnRewriteText', WHERE WHAT IT READS IS OF BULK AT MOST 1048576: true; the input reads as it did. -/
def fnRewriteTextUptoRow : OpenClaim := { program := "ytfiipgebdcbknaa", sum := "551990443e17c3761084e4a9ac1993bbb36bc561ddbe6a320879ab53b8eeedb7", func := "loop.example/regularlanguages/laws.FnRewriteText", spec := "fnRewriteText", unfollowed := true, recurses := true, plainKeys := false, apart := false, narrowed := true }
def FnRewriteTextUptoSaid : Prop := fnRewriteTextUptoRow.holds Try.pinned (OpenSpec.upto fnRewriteTextSpec)

/-- 'laws.FnExactRewriterValid', WHERE WHAT IT READS IS OF BULK AT MOST 1048576: true; the input reads as it did. -/
def fnExactRewriterValidUptoRow : OpenClaim := { program := "ytfiipgebdcbknaa", sum := "551990443e17c3761084e4a9ac1993bbb36bc561ddbe6a320879ab53b8eeedb7", func := "loop.example/regularlanguages/laws.FnExactRewriterValid", spec := "fnExactRewriterValid", unfollowed := true, recurses := true, plainKeys := false, apart := false, narrowed := true }
def FnExactRewriterValidUptoSaid : Prop := fnExactRewriterValidUptoRow.holds Try.pinned (OpenSpec.upto fnExactRewriterValidSpec)

/-- 'laws.FnExactRewriteText', WHERE WHAT IT READS IS OF BULK AT MOST 1048576: true; the input reads as it did. -/
def fnExactRewriteTextUptoRow : OpenClaim := { program := "ytfiipgebdcbknaa", sum := "551990443e17c3761084e4a9ac1993bbb36bc561ddbe6a320879ab53b8eeedb7", func := "loop.example/regularlanguages/laws.FnExactRewriteText", spec := "fnExactRewriteText", unfollowed := true, recurses := true, plainKeys := false, apart := false, narrowed := true }
def FnExactRewriteTextUptoSaid : Prop := fnExactRewriteTextUptoRow.holds Try.pinned (OpenSpec.upto fnExactRewriteTextSpec)

/-- 'laws.FnChainCopy', WHERE WHAT IT READS IS OF BULK AT MOST 1048576: true; the input reads as it did. -/
def fnChainCopyUptoRow : OpenClaim := { program := "ytfiipgebdcbknaa", sum := "551990443e17c3761084e4a9ac1993bbb36bc561ddbe6a320879ab53b8eeedb7", func := "loop.example/regularlanguages/laws.FnChainCopy", spec := "fnChainCopy", unfollowed := true, recurses := true, plainKeys := false, apart := false, narrowed := true }
def FnChainCopyUptoSaid : Prop := fnChainCopyUptoRow.holds Try.pinned (OpenSpec.upto fnChainCopySpec)

/-- 'laws.FnChainThree', WHERE WHAT IT READS IS OF BULK AT MOST 1048576: true; the input reads as it did. -/
def fnChainThreeUptoRow : OpenClaim := { program := "ytfiipgebdcbknaa", sum := "551990443e17c3761084e4a9ac1993bbb36bc561ddbe6a320879ab53b8eeedb7", func := "loop.example/regularlanguages/laws.FnChainThree", spec := "fnChainThree", unfollowed := true, recurses := true, plainKeys := false, apart := false, narrowed := true }
def FnChainThreeUptoSaid : Prop := fnChainThreeUptoRow.holds Try.pinned (OpenSpec.upto fnChainThreeSpec)

/-- 'laws.FnChainRewriters', WHERE WHAT IT READS IS OF BULK AT MOST 1048576: true; the input reads as it did. -/
def fnChainRewritersUptoRow : OpenClaim := { program := "ytfiipgebdcbknaa", sum := "551990443e17c3761084e4a9ac1993bbb36bc561ddbe6a320879ab53b8eeedb7", func := "loop.example/regularlanguages/laws.FnChainRewriters", spec := "fnChainRewriters", unfollowed := true, recurses := true, plainKeys := false, apart := false, narrowed := true }
def FnChainRewritersUptoSaid : Prop := fnChainRewritersUptoRow.holds Try.pinned (OpenSpec.upto fnChainRewritersSpec)

/-- 'laws.FnExactChainRewriters', WHERE WHAT IT READS IS OF BULK AT MOST 1048576: true; the input reads as it did. -/
def fnExactChainRewritersUptoRow : OpenClaim := { program := "ytfiipgebdcbknaa", sum := "551990443e17c3761084e4a9ac1993bbb36bc561ddbe6a320879ab53b8eeedb7", func := "loop.example/regularlanguages/laws.FnExactChainRewriters", spec := "fnExactChainRewriters", unfollowed := true, recurses := true, plainKeys := false, apart := false, narrowed := true }
def FnExactChainRewritersUptoSaid : Prop := fnExactChainRewritersUptoRow.holds Try.pinned (OpenSpec.upto fnExactChainRewritersSpec)

end Rows
end Go.Proofs.Ytfiipgebdcbknaa
