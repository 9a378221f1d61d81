/-
  No cell of these rows narrows 'for every input' (looked for: loops, veiled, ifaces, maps, wideKeys, modest, calm, conditions, laid).
  DERIVED. THE GIVEN ROWS OF THIS SEAT. 10 by the template 'for every input the law returns true; each argument reads behind the call as it read before'; 0 by the template 'total and deterministic' (their statements: YtjnnalkjabenaaaTotals.lean).
  GIVEN WITH THE SEED: the statements are not yours to turn. If you find one false, say at which input.
  Laid BY PROGRAM, IN A SANDBOX (cutbox-rows.mjs): the forced cells as the released guide's own fill.sh prints them over the translation b9337c4e61a87943… (all of the seat's roots in one cut). By AI agents, Wed Nov 11 2026. No macro, syntax, notation, axiom, sorry.
-/
import Derived.Test.YtjnnalkjabenaaaChecked
import GoSem.Claim
import GoSem.ClaimJoined
import GoSem.ClaimMapViews
import Derived.JoinedTies
import Derived.KernelRfl
namespace Go.Proofs.Ytjnnalkjabenaaa
/- THE CELL 'sum', in the pinned program and in every row, IS THE sha256 OF THE DUMP (.gsa) THAT YtjnnalkjabenaaaProg.lean LOADS. Nothing in Lean hashes anything: it is a label: what it is worth is what the hold of that sum in a sandbox is worth. -/
noncomputable def Try.pinned : Pinned := { name := "ytjnnalkjabenaaa", sum := "b9337c4e61a87943346c9d4648ef3f186c27edc181a741bba94e470d226911be", checked := Try.checked }
namespace Rows
def none {H : Type} : Left H := { results := [], args := [] }

/-- 'laws.FnDfaRun': WHATEVER THE INPUT: true; the input reads as it did. -/
def fnDfaRunSpec : ChangeSpec := { name := "fnDfaRun", fn := fun _ => fun
  | [d] => { results := [.lit (.bool true)], args := [d] }
  | _ => none }
def fnDfaRunRow : OpenClaim := { program := "ytjnnalkjabenaaa", sum := "b9337c4e61a87943346c9d4648ef3f186c27edc181a741bba94e470d226911be", func := "loop.example/regularlanguages/laws.FnDfaRun", spec := "fnDfaRun", unfollowed := true, recurses := true, plainKeys := false, apart := false }
def FnDfaRunSaid : Prop := fnDfaRunRow.holds Try.pinned (OpenSpec.ofChange fnDfaRunSpec)

/-- ITS FALSE NEIGHBOUR: 'it returns false'. Refute it at one input. -/
def fnDfaRunWrong : ChangeSpec := { name := "fnDfaRun", fn := fun _ => fun
  | [d] => { results := [.lit (.bool false)], args := [d] }
  | _ => none }
def FnDfaRunWrongFalsely : Prop := fnDfaRunRow.holds Try.pinned (OpenSpec.ofChange fnDfaRunWrong)

/-- 'laws.FnFindWhole': WHATEVER THE INPUT: true; the input reads as it did. -/
def fnFindWholeSpec : ChangeSpec := { name := "fnFindWhole", fn := fun _ => fun
  | [d] => { results := [.lit (.bool true)], args := [d] }
  | _ => none }
def fnFindWholeRow : OpenClaim := { program := "ytjnnalkjabenaaa", sum := "b9337c4e61a87943346c9d4648ef3f186c27edc181a741bba94e470d226911be", func := "loop.example/regularlanguages/laws.FnFindWhole", spec := "fnFindWhole", unfollowed := true, recurses := true, plainKeys := false, apart := false }
def FnFindWholeSaid : Prop := fnFindWholeRow.holds Try.pinned (OpenSpec.ofChange fnFindWholeSpec)

/-- ITS FALSE NEIGHBOUR: 'it returns false'. Refute it at one input. -/
def fnFindWholeWrong : ChangeSpec := { name := "fnFindWhole", fn := fun _ => fun
  | [d] => { results := [.lit (.bool false)], args := [d] }
  | _ => none }
def FnFindWholeWrongFalsely : Prop := fnFindWholeRow.holds Try.pinned (OpenSpec.ofChange fnFindWholeWrong)

/-- 'laws.FnDfaAccepts': WHATEVER THE INPUT: true; the input reads as it did. -/
def fnDfaAcceptsSpec : ChangeSpec := { name := "fnDfaAccepts", fn := fun _ => fun
  | [d] => { results := [.lit (.bool true)], args := [d] }
  | _ => none }
def fnDfaAcceptsRow : OpenClaim := { program := "ytjnnalkjabenaaa", sum := "b9337c4e61a87943346c9d4648ef3f186c27edc181a741bba94e470d226911be", func := "loop.example/regularlanguages/laws.FnDfaAccepts", spec := "fnDfaAccepts", unfollowed := true, recurses := true, plainKeys := false, apart := false }
def FnDfaAcceptsSaid : Prop := fnDfaAcceptsRow.holds Try.pinned (OpenSpec.ofChange fnDfaAcceptsSpec)

/-- ITS FALSE NEIGHBOUR: 'it returns false'. Refute it at one input. -/
def fnDfaAcceptsWrong : ChangeSpec := { name := "fnDfaAccepts", fn := fun _ => fun
  | [d] => { results := [.lit (.bool false)], args := [d] }
  | _ => none }
def FnDfaAcceptsWrongFalsely : Prop := fnDfaAcceptsRow.holds Try.pinned (OpenSpec.ofChange fnDfaAcceptsWrong)

/-- 'laws.FnPatternsValid': WHATEVER THE INPUT: true; the input reads as it did. -/
def fnPatternsValidSpec : ChangeSpec := { name := "fnPatternsValid", fn := fun _ => fun
  | [d] => { results := [.lit (.bool true)], args := [d] }
  | _ => none }
def fnPatternsValidRow : OpenClaim := { program := "ytjnnalkjabenaaa", sum := "b9337c4e61a87943346c9d4648ef3f186c27edc181a741bba94e470d226911be", func := "loop.example/regularlanguages/laws.FnPatternsValid", spec := "fnPatternsValid", unfollowed := true, recurses := true, plainKeys := false, apart := false }
def FnPatternsValidSaid : Prop := fnPatternsValidRow.holds Try.pinned (OpenSpec.ofChange fnPatternsValidSpec)

/-- ITS FALSE NEIGHBOUR: 'it returns false'. Refute it at one input. -/
def fnPatternsValidWrong : ChangeSpec := { name := "fnPatternsValid", fn := fun _ => fun
  | [d] => { results := [.lit (.bool false)], args := [d] }
  | _ => none }
def FnPatternsValidWrongFalsely : Prop := fnPatternsValidRow.holds Try.pinned (OpenSpec.ofChange fnPatternsValidWrong)

/-- 'laws.FnMinimizeAccepts': WHATEVER THE INPUT: true; the input reads as it did. -/
def fnMinimizeAcceptsSpec : ChangeSpec := { name := "fnMinimizeAccepts", fn := fun _ => fun
  | [d] => { results := [.lit (.bool true)], args := [d] }
  | _ => none }
def fnMinimizeAcceptsRow : OpenClaim := { program := "ytjnnalkjabenaaa", sum := "b9337c4e61a87943346c9d4648ef3f186c27edc181a741bba94e470d226911be", func := "loop.example/regularlanguages/laws.FnMinimizeAccepts", spec := "fnMinimizeAccepts", unfollowed := true, recurses := true, plainKeys := false, apart := false }
def FnMinimizeAcceptsSaid : Prop := fnMinimizeAcceptsRow.holds Try.pinned (OpenSpec.ofChange fnMinimizeAcceptsSpec)

/-- ITS FALSE NEIGHBOUR: 'it returns false'. Refute it at one input. -/
def fnMinimizeAcceptsWrong : ChangeSpec := { name := "fnMinimizeAccepts", fn := fun _ => fun
  | [d] => { results := [.lit (.bool false)], args := [d] }
  | _ => none }
def FnMinimizeAcceptsWrongFalsely : Prop := fnMinimizeAcceptsRow.holds Try.pinned (OpenSpec.ofChange fnMinimizeAcceptsWrong)

/-- 'laws.FnFirstExtra': WHATEVER THE INPUT: true; the input reads as it did. -/
def fnFirstExtraSpec : ChangeSpec := { name := "fnFirstExtra", fn := fun _ => fun
  | [d] => { results := [.lit (.bool true)], args := [d] }
  | _ => none }
def fnFirstExtraRow : OpenClaim := { program := "ytjnnalkjabenaaa", sum := "b9337c4e61a87943346c9d4648ef3f186c27edc181a741bba94e470d226911be", func := "loop.example/regularlanguages/laws.FnFirstExtra", spec := "fnFirstExtra", unfollowed := true, recurses := true, plainKeys := false, apart := false }
def FnFirstExtraSaid : Prop := fnFirstExtraRow.holds Try.pinned (OpenSpec.ofChange fnFirstExtraSpec)

/-- ITS FALSE NEIGHBOUR: 'it returns false'. Refute it at one input. -/
def fnFirstExtraWrong : ChangeSpec := { name := "fnFirstExtra", fn := fun _ => fun
  | [d] => { results := [.lit (.bool false)], args := [d] }
  | _ => none }
def FnFirstExtraWrongFalsely : Prop := fnFirstExtraRow.holds Try.pinned (OpenSpec.ofChange fnFirstExtraWrong)

/-- 'laws.FnFirstOf': WHATEVER THE INPUT: true; the input reads as it did. -/
def fnFirstOfSpec : ChangeSpec := { name := "fnFirstOf", fn := fun _ => fun
  | [d] => { results := [.lit (.bool true)], args := [d] }
  | _ => none }
def fnFirstOfRow : OpenClaim := { program := "ytjnnalkjabenaaa", sum := "b9337c4e61a87943346c9d4648ef3f186c27edc181a741bba94e470d226911be", func := "loop.example/regularlanguages/laws.FnFirstOf", spec := "fnFirstOf", unfollowed := true, recurses := true, plainKeys := false, apart := false }
def FnFirstOfSaid : Prop := fnFirstOfRow.holds Try.pinned (OpenSpec.ofChange fnFirstOfSpec)

/-- ITS FALSE NEIGHBOUR: 'it returns false'. Refute it at one input. -/
def fnFirstOfWrong : ChangeSpec := { name := "fnFirstOf", fn := fun _ => fun
  | [d] => { results := [.lit (.bool false)], args := [d] }
  | _ => none }
def FnFirstOfWrongFalsely : Prop := fnFirstOfRow.holds Try.pinned (OpenSpec.ofChange fnFirstOfWrong)

/-- 'laws.FnFewestParts': WHATEVER THE INPUT: true; the input reads as it did. -/
def fnFewestPartsSpec : ChangeSpec := { name := "fnFewestParts", fn := fun _ => fun
  | [d] => { results := [.lit (.bool true)], args := [d] }
  | _ => none }
def fnFewestPartsRow : OpenClaim := { program := "ytjnnalkjabenaaa", sum := "b9337c4e61a87943346c9d4648ef3f186c27edc181a741bba94e470d226911be", func := "loop.example/regularlanguages/laws.FnFewestParts", spec := "fnFewestParts", unfollowed := true, recurses := true, plainKeys := false, apart := false }
def FnFewestPartsSaid : Prop := fnFewestPartsRow.holds Try.pinned (OpenSpec.ofChange fnFewestPartsSpec)

/-- ITS FALSE NEIGHBOUR: 'it returns false'. Refute it at one input. -/
def fnFewestPartsWrong : ChangeSpec := { name := "fnFewestParts", fn := fun _ => fun
  | [d] => { results := [.lit (.bool false)], args := [d] }
  | _ => none }
def FnFewestPartsWrongFalsely : Prop := fnFewestPartsRow.holds Try.pinned (OpenSpec.ofChange fnFewestPartsWrong)

/-- 'laws.FnUsefulStates': WHATEVER THE INPUT: true; the input reads as it did. -/
def fnUsefulStatesSpec : ChangeSpec := { name := "fnUsefulStates", fn := fun _ => fun
  | [d1, d2] => { results := [.lit (.bool true)], args := [d1, d2] }
  | _ => none }
def fnUsefulStatesRow : OpenClaim := { program := "ytjnnalkjabenaaa", sum := "b9337c4e61a87943346c9d4648ef3f186c27edc181a741bba94e470d226911be", func := "loop.example/regularlanguages/laws.FnUsefulStates", spec := "fnUsefulStates", unfollowed := true, recurses := true, plainKeys := false, apart := false }
def FnUsefulStatesSaid : Prop := fnUsefulStatesRow.holds Try.pinned (OpenSpec.ofChange fnUsefulStatesSpec)

/-- ITS FALSE NEIGHBOUR: 'it returns false'. Refute it at one input. -/
def fnUsefulStatesWrong : ChangeSpec := { name := "fnUsefulStates", fn := fun _ => fun
  | [d1, d2] => { results := [.lit (.bool false)], args := [d1, d2] }
  | _ => none }
def FnUsefulStatesWrongFalsely : Prop := fnUsefulStatesRow.holds Try.pinned (OpenSpec.ofChange fnUsefulStatesWrong)

/-- 'laws.FnFindFirst': WHATEVER THE INPUT: true; the input reads as it did. -/
def fnFindFirstSpec : ChangeSpec := { name := "fnFindFirst", fn := fun _ => fun
  | [d] => { results := [.lit (.bool true)], args := [d] }
  | _ => none }
def fnFindFirstRow : OpenClaim := { program := "ytjnnalkjabenaaa", sum := "b9337c4e61a87943346c9d4648ef3f186c27edc181a741bba94e470d226911be", func := "loop.example/regularlanguages/laws.FnFindFirst", spec := "fnFindFirst", unfollowed := true, recurses := true, plainKeys := false, apart := false }
def FnFindFirstSaid : Prop := fnFindFirstRow.holds Try.pinned (OpenSpec.ofChange fnFindFirstSpec)

/-- ITS FALSE NEIGHBOUR: 'it returns false'. Refute it at one input. -/
def fnFindFirstWrong : ChangeSpec := { name := "fnFindFirst", fn := fun _ => fun
  | [d] => { results := [.lit (.bool false)], args := [d] }
  | _ => none }
def FnFindFirstWrongFalsely : Prop := fnFindFirstRow.holds Try.pinned (OpenSpec.ofChange fnFindFirstWrong)

/- THE SECOND FORM. 'bulk': how many values and letters a reading holds, each counted each time it is reached (what is shared counts as often as it is met; a slice's spare places count too). A statement '..UptoSaid' is the law's where the arguments, and the package variables that the reading takes, are together of bulk at most 1048576: NARROWER than '..Said'. Prove '..Said' where nothing that the law and all that it calls make is longer than what came in: it says more and counts as full. Else prove '..UptoSaid'. A law counts once. -/
mutual
def uptoBulk {H : Type} : DataW H → Nat
  | .lit (.string bytes) => bytes.length + 1
  | .lit _ => 1
  | .nil => 1
  | .ptr d => uptoBulk d + 1
  | .slice elems spare => uptoBulkAll elems + uptoBulkAll spare + 1
  | .agg parts => uptoBulkAll parts + 1
  | .iface _ d => uptoBulk d + 1
  | .map entries => uptoBulkEntries entries + 1
  | .held _ => 1
def uptoBulkAll {H : Type} : List (DataW H) → Nat
  | [] => 0
  | d :: r => uptoBulk d + uptoBulkAll r
def uptoBulkEntries {H : Type} : List (Lit × DataW H) → Nat
  | [] => 0
  | x :: r => uptoBulkEntry x + uptoBulkEntries r
def uptoBulkEntry {H : Type} : Lit × DataW H → Nat
  | (.string bytes, d) => bytes.length + uptoBulk d + 1
  | (_, d) => uptoBulk d + 1
 end
def uptoSmall : (H : Type) → List (DataW H) → Bool := fun _ ds => decide (uptoBulkAll ds ≤ 1048576)
def OpenSpec.upto (s : _root_.Go.ChangeSpec) : _root_.Go.OpenSpec := { _root_.Go.OpenSpec.ofChange s with cond := some uptoSmall }

/-- 'laws.FnDfaRun', WHERE WHAT IT READS IS OF BULK AT MOST 1048576: true; the input reads as it did. -/
def fnDfaRunUptoRow : OpenClaim := { program := "ytjnnalkjabenaaa", sum := "b9337c4e61a87943346c9d4648ef3f186c27edc181a741bba94e470d226911be", func := "loop.example/regularlanguages/laws.FnDfaRun", spec := "fnDfaRun", unfollowed := true, recurses := true, plainKeys := false, apart := false, narrowed := true }
def FnDfaRunUptoSaid : Prop := fnDfaRunUptoRow.holds Try.pinned (OpenSpec.upto fnDfaRunSpec)

/-- 'laws.FnFindWhole', WHERE WHAT IT READS IS OF BULK AT MOST 1048576: true; the input reads as it did. -/
def fnFindWholeUptoRow : OpenClaim := { program := "ytjnnalkjabenaaa", sum := "b9337c4e61a87943346c9d4648ef3f186c27edc181a741bba94e470d226911be", func := "loop.example/regularlanguages/laws.FnFindWhole", spec := "fnFindWhole", unfollowed := true, recurses := true, plainKeys := false, apart := false, narrowed := true }
def FnFindWholeUptoSaid : Prop := fnFindWholeUptoRow.holds Try.pinned (OpenSpec.upto fnFindWholeSpec)

/-- 'laws.FnDfaAccepts', WHERE WHAT IT READS IS OF BULK AT MOST 1048576: true; the input reads as it did. -/
def fnDfaAcceptsUptoRow : OpenClaim := { program := "ytjnnalkjabenaaa", sum := "b9337c4e61a87943346c9d4648ef3f186c27edc181a741bba94e470d226911be", func := "loop.example/regularlanguages/laws.FnDfaAccepts", spec := "fnDfaAccepts", unfollowed := true, recurses := true, plainKeys := false, apart := false, narrowed := true }
def FnDfaAcceptsUptoSaid : Prop := fnDfaAcceptsUptoRow.holds Try.pinned (OpenSpec.upto fnDfaAcceptsSpec)

/-- 'laws.FnPatternsValid', WHERE WHAT IT READS IS OF BULK AT MOST 1048576: true; the input reads as it did. -/
def fnPatternsValidUptoRow : OpenClaim := { program := "ytjnnalkjabenaaa", sum := "b9337c4e61a87943346c9d4648ef3f186c27edc181a741bba94e470d226911be", func := "loop.example/regularlanguages/laws.FnPatternsValid", spec := "fnPatternsValid", unfollowed := true, recurses := true, plainKeys := false, apart := false, narrowed := true }
def FnPatternsValidUptoSaid : Prop := fnPatternsValidUptoRow.holds Try.pinned (OpenSpec.upto fnPatternsValidSpec)

/-- 'laws.FnMinimizeAccepts', WHERE WHAT IT READS IS OF BULK AT MOST 1048576: true; the input reads as it did. -/
def fnMinimizeAcceptsUptoRow : OpenClaim := { program := "ytjnnalkjabenaaa", sum := "b9337c4e61a87943346c9d4648ef3f186c27edc181a741bba94e470d226911be", func := "loop.example/regularlanguages/laws.FnMinimizeAccepts", spec := "fnMinimizeAccepts", unfollowed := true, recurses := true, plainKeys := false, apart := false, narrowed := true }
def FnMinimizeAcceptsUptoSaid : Prop := fnMinimizeAcceptsUptoRow.holds Try.pinned (OpenSpec.upto fnMinimizeAcceptsSpec)

/-- 'laws.FnFirstExtra', WHERE WHAT IT READS IS OF BULK AT MOST 1048576: true; the input reads as it did. -/
def fnFirstExtraUptoRow : OpenClaim := { program := "ytjnnalkjabenaaa", sum := "b9337c4e61a87943346c9d4648ef3f186c27edc181a741bba94e470d226911be", func := "loop.example/regularlanguages/laws.FnFirstExtra", spec := "fnFirstExtra", unfollowed := true, recurses := true, plainKeys := false, apart := false, narrowed := true }
def FnFirstExtraUptoSaid : Prop := fnFirstExtraUptoRow.holds Try.pinned (OpenSpec.upto fnFirstExtraSpec)

/-- 'laws.FnFirstOf', WHERE WHAT IT READS IS OF BULK AT MOST 1048576: true; the input reads as it did. -/
def fnFirstOfUptoRow : OpenClaim := { program := "ytjnnalkjabenaaa", sum := "b9337c4e61a87943346c9d4648ef3f186c27edc181a741bba94e470d226911be", func := "loop.example/regularlanguages/laws.FnFirstOf", spec := "fnFirstOf", unfollowed := true, recurses := true, plainKeys := false, apart := false, narrowed := true }
def FnFirstOfUptoSaid : Prop := fnFirstOfUptoRow.holds Try.pinned (OpenSpec.upto fnFirstOfSpec)

/-- 'laws.FnFewestParts', WHERE WHAT IT READS IS OF BULK AT MOST 1048576: true; the input reads as it did. -/
def fnFewestPartsUptoRow : OpenClaim := { program := "ytjnnalkjabenaaa", sum := "b9337c4e61a87943346c9d4648ef3f186c27edc181a741bba94e470d226911be", func := "loop.example/regularlanguages/laws.FnFewestParts", spec := "fnFewestParts", unfollowed := true, recurses := true, plainKeys := false, apart := false, narrowed := true }
def FnFewestPartsUptoSaid : Prop := fnFewestPartsUptoRow.holds Try.pinned (OpenSpec.upto fnFewestPartsSpec)

/-- 'laws.FnUsefulStates', WHERE WHAT IT READS IS OF BULK AT MOST 1048576: true; the input reads as it did. -/
def fnUsefulStatesUptoRow : OpenClaim := { program := "ytjnnalkjabenaaa", sum := "b9337c4e61a87943346c9d4648ef3f186c27edc181a741bba94e470d226911be", func := "loop.example/regularlanguages/laws.FnUsefulStates", spec := "fnUsefulStates", unfollowed := true, recurses := true, plainKeys := false, apart := false, narrowed := true }
def FnUsefulStatesUptoSaid : Prop := fnUsefulStatesUptoRow.holds Try.pinned (OpenSpec.upto fnUsefulStatesSpec)

/-- 'laws.FnFindFirst', WHERE WHAT IT READS IS OF BULK AT MOST 1048576: true; the input reads as it did. -/
def fnFindFirstUptoRow : OpenClaim := { program := "ytjnnalkjabenaaa", sum := "b9337c4e61a87943346c9d4648ef3f186c27edc181a741bba94e470d226911be", func := "loop.example/regularlanguages/laws.FnFindFirst", spec := "fnFindFirst", unfollowed := true, recurses := true, plainKeys := false, apart := false, narrowed := true }
def FnFindFirstUptoSaid : Prop := fnFindFirstUptoRow.holds Try.pinned (OpenSpec.upto fnFindFirstSpec)

end Rows
end Go.Proofs.Ytjnnalkjabenaaa
