/-
  No cell of these rows narrows 'for every input' (looked for: loops, veiled, ifaces, maps, wideKeys, modest, calm, conditions, laid).
  DERIVED. THE GIVEN ROWS OF THIS SEAT. 12 by the template 'for every input the law returns true; each argument reads behind the call as it read before'; 0 by the template 'total and deterministic' (their statements: YtmodfeaneggloaaTotals.lean).
  GIVEN WITH THE SEED: the statements are not yours to turn. If you find one false, say at which input.
  Laid BY PROGRAM, IN A SANDBOX (cutbox-rows.mjs): the forced cells as the released guide's own fill.sh prints them over the translation a6d84af1c7a8970e… (all of the seat's roots in one cut). By AI agents, Wed Nov 11 2026. No macro, syntax, notation, axiom, sorry.
-/
import Derived.Test.YtmodfeaneggloaaChecked
import GoSem.Claim
import GoSem.ClaimJoined
import GoSem.ClaimMapViews
import Derived.JoinedTies
import Derived.KernelRfl
namespace Go.Proofs.Ytmodfeaneggloaa
/- THE CELL 'sum', in the pinned program and in every row, IS THE sha256 OF THE DUMP (.gsa) THAT YtmodfeaneggloaaProg.lean LOADS. Nothing in Lean hashes anything: it is a label: what it is worth is what the hold of that sum in a sandbox is worth. -/
noncomputable def Try.pinned : Pinned := { name := "ytmodfeaneggloaa", sum := "a6d84af1c7a8970e409a09c5f32638efbb8cd3b1013b62faba2b66d0b2172e6d", checked := Try.checked }
namespace Rows
def none {H : Type} : Left H := { results := [], args := [] }

/-- 'laws.FnFirstOf': WHATEVER THE INPUT: true; the input reads as it did. -/
def fnFirstOfSpec : ChangeSpec := { name := "fnFirstOf", fn := fun _ => fun
  | [d] => { results := [.lit (.bool true)], args := [d] }
  | _ => none }
def fnFirstOfRow : OpenClaim := { program := "ytmodfeaneggloaa", sum := "a6d84af1c7a8970e409a09c5f32638efbb8cd3b1013b62faba2b66d0b2172e6d", func := "loop.example/regularlanguages/laws.FnFirstOf", spec := "fnFirstOf", unfollowed := true, recurses := true, plainKeys := false, apart := false }
def FnFirstOfSaid : Prop := fnFirstOfRow.holds Try.pinned (OpenSpec.ofChange fnFirstOfSpec)

/-- ITS FALSE NEIGHBOUR: 'it returns false'. Refute it at one input. -/
def fnFirstOfWrong : ChangeSpec := { name := "fnFirstOf", fn := fun _ => fun
  | [d] => { results := [.lit (.bool false)], args := [d] }
  | _ => none }
def FnFirstOfWrongFalsely : Prop := fnFirstOfRow.holds Try.pinned (OpenSpec.ofChange fnFirstOfWrong)

/-- 'laws.FnRankWord': WHATEVER THE INPUT: true; the input reads as it did. -/
def fnRankWordSpec : ChangeSpec := { name := "fnRankWord", fn := fun _ => fun
  | [d] => { results := [.lit (.bool true)], args := [d] }
  | _ => none }
def fnRankWordRow : OpenClaim := { program := "ytmodfeaneggloaa", sum := "a6d84af1c7a8970e409a09c5f32638efbb8cd3b1013b62faba2b66d0b2172e6d", func := "loop.example/regularlanguages/laws.FnRankWord", spec := "fnRankWord", unfollowed := true, recurses := true, plainKeys := false, apart := false }
def FnRankWordSaid : Prop := fnRankWordRow.holds Try.pinned (OpenSpec.ofChange fnRankWordSpec)

/-- ITS FALSE NEIGHBOUR: 'it returns false'. Refute it at one input. -/
def fnRankWordWrong : ChangeSpec := { name := "fnRankWord", fn := fun _ => fun
  | [d] => { results := [.lit (.bool false)], args := [d] }
  | _ => none }
def FnRankWordWrongFalsely : Prop := fnRankWordRow.holds Try.pinned (OpenSpec.ofChange fnRankWordWrong)

/-- 'laws.FnCountWords': WHATEVER THE INPUT: true; the input reads as it did. -/
def fnCountWordsSpec : ChangeSpec := { name := "fnCountWords", fn := fun _ => fun
  | [d] => { results := [.lit (.bool true)], args := [d] }
  | _ => none }
def fnCountWordsRow : OpenClaim := { program := "ytmodfeaneggloaa", sum := "a6d84af1c7a8970e409a09c5f32638efbb8cd3b1013b62faba2b66d0b2172e6d", func := "loop.example/regularlanguages/laws.FnCountWords", spec := "fnCountWords", unfollowed := true, recurses := true, plainKeys := false, apart := false }
def FnCountWordsSaid : Prop := fnCountWordsRow.holds Try.pinned (OpenSpec.ofChange fnCountWordsSpec)

/-- ITS FALSE NEIGHBOUR: 'it returns false'. Refute it at one input. -/
def fnCountWordsWrong : ChangeSpec := { name := "fnCountWords", fn := fun _ => fun
  | [d] => { results := [.lit (.bool false)], args := [d] }
  | _ => none }
def FnCountWordsWrongFalsely : Prop := fnCountWordsRow.holds Try.pinned (OpenSpec.ofChange fnCountWordsWrong)

/-- 'laws.FnWordNumber': WHATEVER THE INPUT: true; the input reads as it did. -/
def fnWordNumberSpec : ChangeSpec := { name := "fnWordNumber", fn := fun _ => fun
  | [d] => { results := [.lit (.bool true)], args := [d] }
  | _ => none }
def fnWordNumberRow : OpenClaim := { program := "ytmodfeaneggloaa", sum := "a6d84af1c7a8970e409a09c5f32638efbb8cd3b1013b62faba2b66d0b2172e6d", func := "loop.example/regularlanguages/laws.FnWordNumber", spec := "fnWordNumber", unfollowed := true, recurses := true, plainKeys := false, apart := false }
def FnWordNumberSaid : Prop := fnWordNumberRow.holds Try.pinned (OpenSpec.ofChange fnWordNumberSpec)

/-- ITS FALSE NEIGHBOUR: 'it returns false'. Refute it at one input. -/
def fnWordNumberWrong : ChangeSpec := { name := "fnWordNumber", fn := fun _ => fun
  | [d] => { results := [.lit (.bool false)], args := [d] }
  | _ => none }
def FnWordNumberWrongFalsely : Prop := fnWordNumberRow.holds Try.pinned (OpenSpec.ofChange fnWordNumberWrong)

/-- 'laws.FnFirstDiffer': WHATEVER THE INPUT: true; the input reads as it did. -/
def fnFirstDifferSpec : ChangeSpec := { name := "fnFirstDiffer", fn := fun _ => fun
  | [d] => { results := [.lit (.bool true)], args := [d] }
  | _ => none }
def fnFirstDifferRow : OpenClaim := { program := "ytmodfeaneggloaa", sum := "a6d84af1c7a8970e409a09c5f32638efbb8cd3b1013b62faba2b66d0b2172e6d", func := "loop.example/regularlanguages/laws.FnFirstDiffer", spec := "fnFirstDiffer", unfollowed := true, recurses := true, plainKeys := false, apart := false }
def FnFirstDifferSaid : Prop := fnFirstDifferRow.holds Try.pinned (OpenSpec.ofChange fnFirstDifferSpec)

/-- ITS FALSE NEIGHBOUR: 'it returns false'. Refute it at one input. -/
def fnFirstDifferWrong : ChangeSpec := { name := "fnFirstDiffer", fn := fun _ => fun
  | [d] => { results := [.lit (.bool false)], args := [d] }
  | _ => none }
def FnFirstDifferWrongFalsely : Prop := fnFirstDifferRow.holds Try.pinned (OpenSpec.ofChange fnFirstDifferWrong)

/-- 'laws.FnDfaBoth': WHATEVER THE INPUT: true; the input reads as it did. -/
def fnDfaBothSpec : ChangeSpec := { name := "fnDfaBoth", fn := fun _ => fun
  | [d1, d2] => { results := [.lit (.bool true)], args := [d1, d2] }
  | _ => none }
def fnDfaBothRow : OpenClaim := { program := "ytmodfeaneggloaa", sum := "a6d84af1c7a8970e409a09c5f32638efbb8cd3b1013b62faba2b66d0b2172e6d", func := "loop.example/regularlanguages/laws.FnDfaBoth", spec := "fnDfaBoth", unfollowed := true, recurses := true, plainKeys := false, apart := false }
def FnDfaBothSaid : Prop := fnDfaBothRow.holds Try.pinned (OpenSpec.ofChange fnDfaBothSpec)

/-- ITS FALSE NEIGHBOUR: 'it returns false'. Refute it at one input. -/
def fnDfaBothWrong : ChangeSpec := { name := "fnDfaBoth", fn := fun _ => fun
  | [d1, d2] => { results := [.lit (.bool false)], args := [d1, d2] }
  | _ => none }
def FnDfaBothWrongFalsely : Prop := fnDfaBothRow.holds Try.pinned (OpenSpec.ofChange fnDfaBothWrong)

/-- 'laws.FnDfaOther': WHATEVER THE INPUT: true; the input reads as it did. -/
def fnDfaOtherSpec : ChangeSpec := { name := "fnDfaOther", fn := fun _ => fun
  | [d1, d2] => { results := [.lit (.bool true)], args := [d1, d2] }
  | _ => none }
def fnDfaOtherRow : OpenClaim := { program := "ytmodfeaneggloaa", sum := "a6d84af1c7a8970e409a09c5f32638efbb8cd3b1013b62faba2b66d0b2172e6d", func := "loop.example/regularlanguages/laws.FnDfaOther", spec := "fnDfaOther", unfollowed := true, recurses := true, plainKeys := false, apart := false }
def FnDfaOtherSaid : Prop := fnDfaOtherRow.holds Try.pinned (OpenSpec.ofChange fnDfaOtherSpec)

/-- ITS FALSE NEIGHBOUR: 'it returns false'. Refute it at one input. -/
def fnDfaOtherWrong : ChangeSpec := { name := "fnDfaOther", fn := fun _ => fun
  | [d1, d2] => { results := [.lit (.bool false)], args := [d1, d2] }
  | _ => none }
def FnDfaOtherWrongFalsely : Prop := fnDfaOtherRow.holds Try.pinned (OpenSpec.ofChange fnDfaOtherWrong)

/-- 'laws.FnDfaLess': WHATEVER THE INPUT: true; the input reads as it did. -/
def fnDfaLessSpec : ChangeSpec := { name := "fnDfaLess", fn := fun _ => fun
  | [d1, d2] => { results := [.lit (.bool true)], args := [d1, d2] }
  | _ => none }
def fnDfaLessRow : OpenClaim := { program := "ytmodfeaneggloaa", sum := "a6d84af1c7a8970e409a09c5f32638efbb8cd3b1013b62faba2b66d0b2172e6d", func := "loop.example/regularlanguages/laws.FnDfaLess", spec := "fnDfaLess", unfollowed := true, recurses := true, plainKeys := false, apart := false }
def FnDfaLessSaid : Prop := fnDfaLessRow.holds Try.pinned (OpenSpec.ofChange fnDfaLessSpec)

/-- ITS FALSE NEIGHBOUR: 'it returns false'. Refute it at one input. -/
def fnDfaLessWrong : ChangeSpec := { name := "fnDfaLess", fn := fun _ => fun
  | [d1, d2] => { results := [.lit (.bool false)], args := [d1, d2] }
  | _ => none }
def FnDfaLessWrongFalsely : Prop := fnDfaLessRow.holds Try.pinned (OpenSpec.ofChange fnDfaLessWrong)

/-- 'laws.FnDfaEither': WHATEVER THE INPUT: true; the input reads as it did. -/
def fnDfaEitherSpec : ChangeSpec := { name := "fnDfaEither", fn := fun _ => fun
  | [d1, d2] => { results := [.lit (.bool true)], args := [d1, d2] }
  | _ => none }
def fnDfaEitherRow : OpenClaim := { program := "ytmodfeaneggloaa", sum := "a6d84af1c7a8970e409a09c5f32638efbb8cd3b1013b62faba2b66d0b2172e6d", func := "loop.example/regularlanguages/laws.FnDfaEither", spec := "fnDfaEither", unfollowed := true, recurses := true, plainKeys := false, apart := false }
def FnDfaEitherSaid : Prop := fnDfaEitherRow.holds Try.pinned (OpenSpec.ofChange fnDfaEitherSpec)

/-- ITS FALSE NEIGHBOUR: 'it returns false'. Refute it at one input. -/
def fnDfaEitherWrong : ChangeSpec := { name := "fnDfaEither", fn := fun _ => fun
  | [d1, d2] => { results := [.lit (.bool false)], args := [d1, d2] }
  | _ => none }
def FnDfaEitherWrongFalsely : Prop := fnDfaEitherRow.holds Try.pinned (OpenSpec.ofChange fnDfaEitherWrong)

/-- 'laws.FnDfaApart': WHATEVER THE INPUT: true; the input reads as it did. -/
def fnDfaApartSpec : ChangeSpec := { name := "fnDfaApart", fn := fun _ => fun
  | [d1, d2] => { results := [.lit (.bool true)], args := [d1, d2] }
  | _ => none }
def fnDfaApartRow : OpenClaim := { program := "ytmodfeaneggloaa", sum := "a6d84af1c7a8970e409a09c5f32638efbb8cd3b1013b62faba2b66d0b2172e6d", func := "loop.example/regularlanguages/laws.FnDfaApart", spec := "fnDfaApart", unfollowed := true, recurses := true, plainKeys := false, apart := false }
def FnDfaApartSaid : Prop := fnDfaApartRow.holds Try.pinned (OpenSpec.ofChange fnDfaApartSpec)

/-- ITS FALSE NEIGHBOUR: 'it returns false'. Refute it at one input. -/
def fnDfaApartWrong : ChangeSpec := { name := "fnDfaApart", fn := fun _ => fun
  | [d1, d2] => { results := [.lit (.bool false)], args := [d1, d2] }
  | _ => none }
def FnDfaApartWrongFalsely : Prop := fnDfaApartRow.holds Try.pinned (OpenSpec.ofChange fnDfaApartWrong)

/-- 'laws.FnCountAfter': WHATEVER THE INPUT: true; the input reads as it did. -/
def fnCountAfterSpec : ChangeSpec := { name := "fnCountAfter", fn := fun _ => fun
  | [d] => { results := [.lit (.bool true)], args := [d] }
  | _ => none }
def fnCountAfterRow : OpenClaim := { program := "ytmodfeaneggloaa", sum := "a6d84af1c7a8970e409a09c5f32638efbb8cd3b1013b62faba2b66d0b2172e6d", func := "loop.example/regularlanguages/laws.FnCountAfter", spec := "fnCountAfter", unfollowed := true, recurses := true, plainKeys := false, apart := false }
def FnCountAfterSaid : Prop := fnCountAfterRow.holds Try.pinned (OpenSpec.ofChange fnCountAfterSpec)

/-- ITS FALSE NEIGHBOUR: 'it returns false'. Refute it at one input. -/
def fnCountAfterWrong : ChangeSpec := { name := "fnCountAfter", fn := fun _ => fun
  | [d] => { results := [.lit (.bool false)], args := [d] }
  | _ => none }
def FnCountAfterWrongFalsely : Prop := fnCountAfterRow.holds Try.pinned (OpenSpec.ofChange fnCountAfterWrong)

/-- 'laws.FnDfaAfter': WHATEVER THE INPUT: true; the input reads as it did. -/
def fnDfaAfterSpec : ChangeSpec := { name := "fnDfaAfter", fn := fun _ => fun
  | [d1, d2] => { results := [.lit (.bool true)], args := [d1, d2] }
  | _ => none }
def fnDfaAfterRow : OpenClaim := { program := "ytmodfeaneggloaa", sum := "a6d84af1c7a8970e409a09c5f32638efbb8cd3b1013b62faba2b66d0b2172e6d", func := "loop.example/regularlanguages/laws.FnDfaAfter", spec := "fnDfaAfter", unfollowed := true, recurses := true, plainKeys := false, apart := false }
def FnDfaAfterSaid : Prop := fnDfaAfterRow.holds Try.pinned (OpenSpec.ofChange fnDfaAfterSpec)

/-- ITS FALSE NEIGHBOUR: 'it returns false'. Refute it at one input. -/
def fnDfaAfterWrong : ChangeSpec := { name := "fnDfaAfter", fn := fun _ => fun
  | [d1, d2] => { results := [.lit (.bool false)], args := [d1, d2] }
  | _ => none }
def FnDfaAfterWrongFalsely : Prop := fnDfaAfterRow.holds Try.pinned (OpenSpec.ofChange fnDfaAfterWrong)

/- THE SECOND FORM. 'bulk': how many values and letters a reading holds, each counted each time it is reached (what is shared counts as often as it is met; a slice's spare places count too). A statement '..UptoSaid' is the law's where the arguments, and the package variables that the reading takes, are together of bulk at most 1048576: NARROWER than '..Said'. Prove '..Said' where nothing that the law and all that it calls make is longer than what came in: it says more and counts as full. Else prove '..UptoSaid'. A law counts once. -/
mutual
def uptoBulk {H : Type} : DataW H → Nat
  | .lit (.string bytes) => bytes.length + 1
  | .lit _ => 1
  | .nil => 1
  | .ptr d => uptoBulk d + 1
  | .slice elems spare => uptoBulkAll elems + uptoBulkAll spare + 1
  | .agg parts => uptoBulkAll parts + 1
  | .iface _ d => uptoBulk d + 1
  | .map entries => uptoBulkEntries entries + 1
  | .held _ => 1
def uptoBulkAll {H : Type} : List (DataW H) → Nat
  | [] => 0
  | d :: r => uptoBulk d + uptoBulkAll r
def uptoBulkEntries {H : Type} : List (Lit × DataW H) → Nat
  | [] => 0
  | x :: r => uptoBulkEntry x + uptoBulkEntries r
def uptoBulkEntry {H : Type} : Lit × DataW H → Nat
  | (.string bytes, d) => bytes.length + uptoBulk d + 1
  | (_, d) => uptoBulk d + 1
 end
def uptoSmall : (H : Type) → List (DataW H) → Bool := fun _ ds => decide (uptoBulkAll ds ≤ 1048576)
def OpenSpec.upto (s : _root_.Go.ChangeSpec) : _root_.Go.OpenSpec := { _root_.Go.OpenSpec.ofChange s with cond := some uptoSmall }

/-- 'laws.FnFirstOf', WHERE WHAT IT READS IS OF BULK AT MOST 1048576: true; the input reads as it did. -/
def fnFirstOfUptoRow : OpenClaim := { program := "ytmodfeaneggloaa", sum := "a6d84af1c7a8970e409a09c5f32638efbb8cd3b1013b62faba2b66d0b2172e6d", func := "loop.example/regularlanguages/laws.FnFirstOf", spec := "fnFirstOf", unfollowed := true, recurses := true, plainKeys := false, apart := false, narrowed := true }
def FnFirstOfUptoSaid : Prop := fnFirstOfUptoRow.holds Try.pinned (OpenSpec.upto fnFirstOfSpec)

/-- 'laws.FnRankWord', WHERE WHAT IT READS IS OF BULK AT MOST 1048576: true; the input reads as it did. -/
def fnRankWordUptoRow : OpenClaim := { program := "ytmodfeaneggloaa", sum := "a6d84af1c7a8970e409a09c5f32638efbb8cd3b1013b62faba2b66d0b2172e6d", func := "loop.example/regularlanguages/laws.FnRankWord", spec := "fnRankWord", unfollowed := true, recurses := true, plainKeys := false, apart := false, narrowed := true }
def FnRankWordUptoSaid : Prop := fnRankWordUptoRow.holds Try.pinned (OpenSpec.upto fnRankWordSpec)

/-- 'laws.FnCountWords', WHERE WHAT IT READS IS OF BULK AT MOST 1048576: true; the input reads as it did. -/
def fnCountWordsUptoRow : OpenClaim := { program := "ytmodfeaneggloaa", sum := "a6d84af1c7a8970e409a09c5f32638efbb8cd3b1013b62faba2b66d0b2172e6d", func := "loop.example/regularlanguages/laws.FnCountWords", spec := "fnCountWords", unfollowed := true, recurses := true, plainKeys := false, apart := false, narrowed := true }
def FnCountWordsUptoSaid : Prop := fnCountWordsUptoRow.holds Try.pinned (OpenSpec.upto fnCountWordsSpec)

/-- 'laws.FnWordNumber', WHERE WHAT IT READS IS OF BULK AT MOST 1048576: true; the input reads as it did. -/
def fnWordNumberUptoRow : OpenClaim := { program := "ytmodfeaneggloaa", sum := "a6d84af1c7a8970e409a09c5f32638efbb8cd3b1013b62faba2b66d0b2172e6d", func := "loop.example/regularlanguages/laws.FnWordNumber", spec := "fnWordNumber", unfollowed := true, recurses := true, plainKeys := false, apart := false, narrowed := true }
def FnWordNumberUptoSaid : Prop := fnWordNumberUptoRow.holds Try.pinned (OpenSpec.upto fnWordNumberSpec)

/-- 'laws.FnFirstDiffer', WHERE WHAT IT READS IS OF BULK AT MOST 1048576: true; the input reads as it did. -/
def fnFirstDifferUptoRow : OpenClaim := { program := "ytmodfeaneggloaa", sum := "a6d84af1c7a8970e409a09c5f32638efbb8cd3b1013b62faba2b66d0b2172e6d", func := "loop.example/regularlanguages/laws.FnFirstDiffer", spec := "fnFirstDiffer", unfollowed := true, recurses := true, plainKeys := false, apart := false, narrowed := true }
def FnFirstDifferUptoSaid : Prop := fnFirstDifferUptoRow.holds Try.pinned (OpenSpec.upto fnFirstDifferSpec)

/-- 'laws.FnDfaBoth', WHERE WHAT IT READS IS OF BULK AT MOST 1048576: true; the input reads as it did. -/
def fnDfaBothUptoRow : OpenClaim := { program := "ytmodfeaneggloaa", sum := "a6d84af1c7a8970e409a09c5f32638efbb8cd3b1013b62faba2b66d0b2172e6d", func := "loop.example/regularlanguages/laws.FnDfaBoth", spec := "fnDfaBoth", unfollowed := true, recurses := true, plainKeys := false, apart := false, narrowed := true }
def FnDfaBothUptoSaid : Prop := fnDfaBothUptoRow.holds Try.pinned (OpenSpec.upto fnDfaBothSpec)

/-- 'laws.FnDfaOther', WHERE WHAT IT READS IS OF BULK AT MOST 1048576: true; the input reads as it did. -/
def fnDfaOtherUptoRow : OpenClaim := { program := "ytmodfeaneggloaa", sum := "a6d84af1c7a8970e409a09c5f32638efbb8cd3b1013b62faba2b66d0b2172e6d", func := "loop.example/regularlanguages/laws.FnDfaOther", spec := "fnDfaOther", unfollowed := true, recurses := true, plainKeys := false, apart := false, narrowed := true }
def FnDfaOtherUptoSaid : Prop := fnDfaOtherUptoRow.holds Try.pinned (OpenSpec.upto fnDfaOtherSpec)

/-- 'laws.FnDfaLess', WHERE WHAT IT READS IS OF BULK AT MOST 1048576: true; the input reads as it did. -/
def fnDfaLessUptoRow : OpenClaim := { program := "ytmodfeaneggloaa", sum := "a6d84af1c7a8970e409a09c5f32638efbb8cd3b1013b62faba2b66d0b2172e6d", func := "loop.example/regularlanguages/laws.FnDfaLess", spec := "fnDfaLess", unfollowed := true, recurses := true, plainKeys := false, apart := false, narrowed := true }
def FnDfaLessUptoSaid : Prop := fnDfaLessUptoRow.holds Try.pinned (OpenSpec.upto fnDfaLessSpec)

/-- 'laws.FnDfaEither', WHERE WHAT IT READS IS OF BULK AT MOST 1048576: true; the input reads as it did. -/
def fnDfaEitherUptoRow : OpenClaim := { program := "ytmodfeaneggloaa", sum := "a6d84af1c7a8970e409a09c5f32638efbb8cd3b1013b62faba2b66d0b2172e6d", func := "loop.example/regularlanguages/laws.FnDfaEither", spec := "fnDfaEither", unfollowed := true, recurses := true, plainKeys := false, apart := false, narrowed := true }
def FnDfaEitherUptoSaid : Prop := fnDfaEitherUptoRow.holds Try.pinned (OpenSpec.upto fnDfaEitherSpec)

/-- 'laws.FnDfaApart', WHERE WHAT IT READS IS OF BULK AT MOST 1048576: true; the input reads as it did. -/
def fnDfaApartUptoRow : OpenClaim := { program := "ytmodfeaneggloaa", sum := "a6d84af1c7a8970e409a09c5f32638efbb8cd3b1013b62faba2b66d0b2172e6d", func := "loop.example/regularlanguages/laws.FnDfaApart", spec := "fnDfaApart", unfollowed := true, recurses := true, plainKeys := false, apart := false, narrowed := true }
def FnDfaApartUptoSaid : Prop := fnDfaApartUptoRow.holds Try.pinned (OpenSpec.upto fnDfaApartSpec)

/-- 'laws.FnCountAfter', WHERE WHAT IT READS IS OF BULK AT MOST 1048576: true; the input reads as it did. -/
def fnCountAfterUptoRow : OpenClaim := { program := "ytmodfeaneggloaa", sum := "a6d84af1c7a8970e409a09c5f32638efbb8cd3b1013b62faba2b66d0b2172e6d", func := "loop.example/regularlanguages/laws.FnCountAfter", spec := "fnCountAfter", unfollowed := true, recurses := true, plainKeys := false, apart := false, narrowed := true }
def FnCountAfterUptoSaid : Prop := fnCountAfterUptoRow.holds Try.pinned (OpenSpec.upto fnCountAfterSpec)

/-- 'laws.FnDfaAfter', WHERE WHAT IT READS IS OF BULK AT MOST 1048576: true; the input reads as it did. -/
def fnDfaAfterUptoRow : OpenClaim := { program := "ytmodfeaneggloaa", sum := "a6d84af1c7a8970e409a09c5f32638efbb8cd3b1013b62faba2b66d0b2172e6d", func := "loop.example/regularlanguages/laws.FnDfaAfter", spec := "fnDfaAfter", unfollowed := true, recurses := true, plainKeys := false, apart := false, narrowed := true }
def FnDfaAfterUptoSaid : Prop := fnDfaAfterUptoRow.holds Try.pinned (OpenSpec.upto fnDfaAfterSpec)

end Rows
end Go.Proofs.Ytmodfeaneggloaa
