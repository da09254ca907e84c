/-
  No cell of these rows narrows 'for every input' (looked for: loops, veiled, ifaces, maps, wideKeys, modest, calm, conditions, laid).
  DERIVED. THE GIVEN ROWS OF THIS SEAT. 12 by the template 'for every input the law returns true; each argument reads behind the call as it read before'; 0 by the template 'total and deterministic' (their statements: YtmgmbcniamkfeaaTotals.lean).
  GIVEN WITH THE SEED: the statements are not yours to turn. If you find one false, say at which input.
  Laid BY PROGRAM, IN A SANDBOX (cutbox-rows.mjs): the forced cells as the released guide's own fill.sh prints them over the translation 9ee18548c9b16693… (all of the seat's roots in one cut). By AI agents, Wed Nov 11 2026. No macro, syntax, notation, axiom, sorry.
-/
import Derived.Test.YtmgmbcniamkfeaaChecked
import GoSem.Claim
import GoSem.ClaimJoined
import GoSem.ClaimMapViews
import Derived.JoinedTies
import Derived.KernelRfl
namespace Go.Proofs.Ytmgmbcniamkfeaa
/- THE CELL 'sum', in the pinned program and in every row, IS THE sha256 OF THE DUMP (.gsa) THAT YtmgmbcniamkfeaaProg.lean LOADS. Nothing in Lean hashes anything: it is a label: what it is worth is what the hold of that sum in a sandbox is worth. -/
noncomputable def Try.pinned : Pinned := { name := "ytmgmbcniamkfeaa", sum := "9ee18548c9b16693df28ab0214245837bcf49b653e5fe243dea158f0dc292dd0", checked := Try.checked }
namespace Rows
def none {H : Type} : Left H := { results := [], args := [] }

/-- 'etuilaw04.HuffCodes': WHATEVER THE INPUT: true; the input reads as it did. -/
def huffCodesSpec : ChangeSpec := { name := "huffCodes", fn := fun _ => fun
  | [d1, d2] => { results := [.lit (.bool true)], args := [d1, d2] }
  | _ => none }
def huffCodesRow : OpenClaim := { program := "ytmgmbcniamkfeaa", sum := "9ee18548c9b16693df28ab0214245837bcf49b653e5fe243dea158f0dc292dd0", func := "etui/etuilaw04.HuffCodes", spec := "huffCodes", apart := false }
def HuffCodesSaid : Prop := huffCodesRow.holds Try.pinned (OpenSpec.ofChange huffCodesSpec)

/-- ITS FALSE NEIGHBOUR: 'it returns false'. Refute it at one input. -/
def huffCodesWrong : ChangeSpec := { name := "huffCodes", fn := fun _ => fun
  | [d1, d2] => { results := [.lit (.bool false)], args := [d1, d2] }
  | _ => none }
def HuffCodesWrongFalsely : Prop := huffCodesRow.holds Try.pinned (OpenSpec.ofChange huffCodesWrong)

/-- 'etuilaw04.HuffPrefix': WHATEVER THE INPUT: true; the input reads as it did. -/
def huffPrefixSpec : ChangeSpec := { name := "huffPrefix", fn := fun _ => fun
  | [d1, d2] => { results := [.lit (.bool true)], args := [d1, d2] }
  | _ => none }
def huffPrefixRow : OpenClaim := { program := "ytmgmbcniamkfeaa", sum := "9ee18548c9b16693df28ab0214245837bcf49b653e5fe243dea158f0dc292dd0", func := "etui/etuilaw04.HuffPrefix", spec := "huffPrefix", apart := false }
def HuffPrefixSaid : Prop := huffPrefixRow.holds Try.pinned (OpenSpec.ofChange huffPrefixSpec)

/-- ITS FALSE NEIGHBOUR: 'it returns false'. Refute it at one input. -/
def huffPrefixWrong : ChangeSpec := { name := "huffPrefix", fn := fun _ => fun
  | [d1, d2] => { results := [.lit (.bool false)], args := [d1, d2] }
  | _ => none }
def HuffPrefixWrongFalsely : Prop := huffPrefixRow.holds Try.pinned (OpenSpec.ofChange huffPrefixWrong)

/-- 'etuilaw04.HuffOrder': WHATEVER THE INPUT: true; the input reads as it did. -/
def huffOrderSpec : ChangeSpec := { name := "huffOrder", fn := fun _ => fun
  | [d] => { results := [.lit (.bool true)], args := [d] }
  | _ => none }
def huffOrderRow : OpenClaim := { program := "ytmgmbcniamkfeaa", sum := "9ee18548c9b16693df28ab0214245837bcf49b653e5fe243dea158f0dc292dd0", func := "etui/etuilaw04.HuffOrder", spec := "huffOrder", apart := false }
def HuffOrderSaid : Prop := huffOrderRow.holds Try.pinned (OpenSpec.ofChange huffOrderSpec)

/-- ITS FALSE NEIGHBOUR: 'it returns false'. Refute it at one input. -/
def huffOrderWrong : ChangeSpec := { name := "huffOrder", fn := fun _ => fun
  | [d] => { results := [.lit (.bool false)], args := [d] }
  | _ => none }
def HuffOrderWrongFalsely : Prop := huffOrderRow.holds Try.pinned (OpenSpec.ofChange huffOrderWrong)

/-- 'etuilaw04.HuffReads': WHATEVER THE INPUT: true; the input reads as it did. -/
def huffReadsSpec : ChangeSpec := { name := "huffReads", fn := fun _ => fun
  | [d1, d2, d3] => { results := [.lit (.bool true)], args := [d1, d2, d3] }
  | _ => none }
def huffReadsRow : OpenClaim := { program := "ytmgmbcniamkfeaa", sum := "9ee18548c9b16693df28ab0214245837bcf49b653e5fe243dea158f0dc292dd0", func := "etui/etuilaw04.HuffReads", spec := "huffReads", apart := false }
def HuffReadsSaid : Prop := huffReadsRow.holds Try.pinned (OpenSpec.ofChange huffReadsSpec)

/-- ITS FALSE NEIGHBOUR: 'it returns false'. Refute it at one input. -/
def huffReadsWrong : ChangeSpec := { name := "huffReads", fn := fun _ => fun
  | [d1, d2, d3] => { results := [.lit (.bool false)], args := [d1, d2, d3] }
  | _ => none }
def HuffReadsWrongFalsely : Prop := huffReadsRow.holds Try.pinned (OpenSpec.ofChange huffReadsWrong)

/-- 'etuilaw04.HuffBack': WHATEVER THE INPUT: true; the input reads as it did. -/
def huffBackSpec : ChangeSpec := { name := "huffBack", fn := fun _ => fun
  | [d1, d2] => { results := [.lit (.bool true)], args := [d1, d2] }
  | _ => none }
def huffBackRow : OpenClaim := { program := "ytmgmbcniamkfeaa", sum := "9ee18548c9b16693df28ab0214245837bcf49b653e5fe243dea158f0dc292dd0", func := "etui/etuilaw04.HuffBack", spec := "huffBack", apart := false }
def HuffBackSaid : Prop := huffBackRow.holds Try.pinned (OpenSpec.ofChange huffBackSpec)

/-- ITS FALSE NEIGHBOUR: 'it returns false'. Refute it at one input. -/
def huffBackWrong : ChangeSpec := { name := "huffBack", fn := fun _ => fun
  | [d1, d2] => { results := [.lit (.bool false)], args := [d1, d2] }
  | _ => none }
def HuffBackWrongFalsely : Prop := huffBackRow.holds Try.pinned (OpenSpec.ofChange huffBackWrong)

/-- 'etuilaw06.InflateAnswers': WHATEVER THE INPUT: true; the input reads as it did. -/
def inflateAnswersSpec : ChangeSpec := { name := "inflateAnswers", fn := fun _ => fun
  | [d1, d2] => { results := [.lit (.bool true)], args := [d1, d2] }
  | _ => none }
def inflateAnswersRow : OpenClaim := { program := "ytmgmbcniamkfeaa", sum := "9ee18548c9b16693df28ab0214245837bcf49b653e5fe243dea158f0dc292dd0", func := "etui/etuilaw06.InflateAnswers", spec := "inflateAnswers", unfollowed := true, recurses := true, apart := false }
def InflateAnswersSaid : Prop := inflateAnswersRow.holds Try.pinned (OpenSpec.ofChange inflateAnswersSpec)

/-- ITS FALSE NEIGHBOUR: 'it returns false'. Refute it at one input. -/
def inflateAnswersWrong : ChangeSpec := { name := "inflateAnswers", fn := fun _ => fun
  | [d1, d2] => { results := [.lit (.bool false)], args := [d1, d2] }
  | _ => none }
def InflateAnswersWrongFalsely : Prop := inflateAnswersRow.holds Try.pinned (OpenSpec.ofChange inflateAnswersWrong)

/-- 'etuilaw06.InflateTables': WHATEVER THE INPUT: true; the input reads as it did. -/
def inflateTablesSpec : ChangeSpec := { name := "inflateTables", fn := fun _ => fun
  | [d] => { results := [.lit (.bool true)], args := [d] }
  | _ => none }
def inflateTablesRow : OpenClaim := { program := "ytmgmbcniamkfeaa", sum := "9ee18548c9b16693df28ab0214245837bcf49b653e5fe243dea158f0dc292dd0", func := "etui/etuilaw06.InflateTables", spec := "inflateTables", unfollowed := true, recurses := true, apart := false }
def InflateTablesSaid : Prop := inflateTablesRow.holds Try.pinned (OpenSpec.ofChange inflateTablesSpec)

/-- ITS FALSE NEIGHBOUR: 'it returns false'. Refute it at one input. -/
def inflateTablesWrong : ChangeSpec := { name := "inflateTables", fn := fun _ => fun
  | [d] => { results := [.lit (.bool false)], args := [d] }
  | _ => none }
def InflateTablesWrongFalsely : Prop := inflateTablesRow.holds Try.pinned (OpenSpec.ofChange inflateTablesWrong)

/-- 'etuilaw06.InflateLimit': WHATEVER THE INPUT: true; the input reads as it did. -/
def inflateLimitSpec : ChangeSpec := { name := "inflateLimit", fn := fun _ => fun
  | [d1, d2] => { results := [.lit (.bool true)], args := [d1, d2] }
  | _ => none }
def inflateLimitRow : OpenClaim := { program := "ytmgmbcniamkfeaa", sum := "9ee18548c9b16693df28ab0214245837bcf49b653e5fe243dea158f0dc292dd0", func := "etui/etuilaw06.InflateLimit", spec := "inflateLimit", unfollowed := true, recurses := true, apart := false }
def InflateLimitSaid : Prop := inflateLimitRow.holds Try.pinned (OpenSpec.ofChange inflateLimitSpec)

/-- ITS FALSE NEIGHBOUR: 'it returns false'. Refute it at one input. -/
def inflateLimitWrong : ChangeSpec := { name := "inflateLimit", fn := fun _ => fun
  | [d1, d2] => { results := [.lit (.bool false)], args := [d1, d2] }
  | _ => none }
def InflateLimitWrongFalsely : Prop := inflateLimitRow.holds Try.pinned (OpenSpec.ofChange inflateLimitWrong)

/-- 'etuilaw06.InflateCuts': WHATEVER THE INPUT: true; the input reads as it did. -/
def inflateCutsSpec : ChangeSpec := { name := "inflateCuts", fn := fun _ => fun
  | [d1, d2, d3] => { results := [.lit (.bool true)], args := [d1, d2, d3] }
  | _ => none }
def inflateCutsRow : OpenClaim := { program := "ytmgmbcniamkfeaa", sum := "9ee18548c9b16693df28ab0214245837bcf49b653e5fe243dea158f0dc292dd0", func := "etui/etuilaw06.InflateCuts", spec := "inflateCuts", unfollowed := true, recurses := true, apart := false }
def InflateCutsSaid : Prop := inflateCutsRow.holds Try.pinned (OpenSpec.ofChange inflateCutsSpec)

/-- ITS FALSE NEIGHBOUR: 'it returns false'. Refute it at one input. -/
def inflateCutsWrong : ChangeSpec := { name := "inflateCuts", fn := fun _ => fun
  | [d1, d2, d3] => { results := [.lit (.bool false)], args := [d1, d2, d3] }
  | _ => none }
def InflateCutsWrongFalsely : Prop := inflateCutsRow.holds Try.pinned (OpenSpec.ofChange inflateCutsWrong)

/-- 'etuilaw06.InflateStored': WHATEVER THE INPUT: true; the input reads as it did. -/
def inflateStoredSpec : ChangeSpec := { name := "inflateStored", fn := fun _ => fun
  | [d] => { results := [.lit (.bool true)], args := [d] }
  | _ => none }
def inflateStoredRow : OpenClaim := { program := "ytmgmbcniamkfeaa", sum := "9ee18548c9b16693df28ab0214245837bcf49b653e5fe243dea158f0dc292dd0", func := "etui/etuilaw06.InflateStored", spec := "inflateStored", unfollowed := true, recurses := true, apart := false }
def InflateStoredSaid : Prop := inflateStoredRow.holds Try.pinned (OpenSpec.ofChange inflateStoredSpec)

/-- ITS FALSE NEIGHBOUR: 'it returns false'. Refute it at one input. -/
def inflateStoredWrong : ChangeSpec := { name := "inflateStored", fn := fun _ => fun
  | [d] => { results := [.lit (.bool false)], args := [d] }
  | _ => none }
def InflateStoredWrongFalsely : Prop := inflateStoredRow.holds Try.pinned (OpenSpec.ofChange inflateStoredWrong)

/-- 'etuilaw06.InflateTwo': WHATEVER THE INPUT: true; the input reads as it did. -/
def inflateTwoSpec : ChangeSpec := { name := "inflateTwo", fn := fun _ => fun
  | [d1, d2] => { results := [.lit (.bool true)], args := [d1, d2] }
  | _ => none }
def inflateTwoRow : OpenClaim := { program := "ytmgmbcniamkfeaa", sum := "9ee18548c9b16693df28ab0214245837bcf49b653e5fe243dea158f0dc292dd0", func := "etui/etuilaw06.InflateTwo", spec := "inflateTwo", unfollowed := true, recurses := true, apart := false }
def InflateTwoSaid : Prop := inflateTwoRow.holds Try.pinned (OpenSpec.ofChange inflateTwoSpec)

/-- ITS FALSE NEIGHBOUR: 'it returns false'. Refute it at one input. -/
def inflateTwoWrong : ChangeSpec := { name := "inflateTwo", fn := fun _ => fun
  | [d1, d2] => { results := [.lit (.bool false)], args := [d1, d2] }
  | _ => none }
def InflateTwoWrongFalsely : Prop := inflateTwoRow.holds Try.pinned (OpenSpec.ofChange inflateTwoWrong)

/-- 'etuilaw06.InflateFixed': WHATEVER THE INPUT: true; the input reads as it did. -/
def inflateFixedSpec : ChangeSpec := { name := "inflateFixed", fn := fun _ => fun
  | [d1, d2, d3, d4, d5] => { results := [.lit (.bool true)], args := [d1, d2, d3, d4, d5] }
  | _ => none }
def inflateFixedRow : OpenClaim := { program := "ytmgmbcniamkfeaa", sum := "9ee18548c9b16693df28ab0214245837bcf49b653e5fe243dea158f0dc292dd0", func := "etui/etuilaw06.InflateFixed", spec := "inflateFixed", unfollowed := true, recurses := true, apart := false }
def InflateFixedSaid : Prop := inflateFixedRow.holds Try.pinned (OpenSpec.ofChange inflateFixedSpec)

/-- ITS FALSE NEIGHBOUR: 'it returns false'. Refute it at one input. -/
def inflateFixedWrong : ChangeSpec := { name := "inflateFixed", fn := fun _ => fun
  | [d1, d2, d3, d4, d5] => { results := [.lit (.bool false)], args := [d1, d2, d3, d4, d5] }
  | _ => none }
def InflateFixedWrongFalsely : Prop := inflateFixedRow.holds Try.pinned (OpenSpec.ofChange inflateFixedWrong)

/- THE SECOND FORM. 'bulk': how many values and letters a reading holds, each counted each time it is reached (what is shared counts as often as it is met; a slice's spare places count too). A statement '..UptoSaid' is the law's where the arguments, and the package variables that the reading takes, are together of bulk at most 1048576: NARROWER than '..Said'. Prove '..Said' where nothing that the law and all that it calls make is longer than what came in: it says more and counts as full. Else prove '..UptoSaid'. A law counts once. -/
mutual
def uptoBulk {H : Type} : DataW H → Nat
  | .lit (.string bytes) => bytes.length + 1
  | .lit _ => 1
  | .nil => 1
  | .ptr d => uptoBulk d + 1
  | .slice elems spare => uptoBulkAll elems + uptoBulkAll spare + 1
  | .agg parts => uptoBulkAll parts + 1
  | .iface _ d => uptoBulk d + 1
  | .map entries => uptoBulkEntries entries + 1
  | .held _ => 1
def uptoBulkAll {H : Type} : List (DataW H) → Nat
  | [] => 0
  | d :: r => uptoBulk d + uptoBulkAll r
def uptoBulkEntries {H : Type} : List (Lit × DataW H) → Nat
  | [] => 0
  | x :: r => uptoBulkEntry x + uptoBulkEntries r
def uptoBulkEntry {H : Type} : Lit × DataW H → Nat
  | (.string bytes, d) => bytes.length + uptoBulk d + 1
  | (_, d) => uptoBulk d + 1
 end
def uptoSmall : (H : Type) → List (DataW H) → Bool := fun _ ds => decide (uptoBulkAll ds ≤ 1048576)
def OpenSpec.upto (s : _root_.Go.ChangeSpec) : _root_.Go.OpenSpec := { _root_.Go.OpenSpec.ofChange s with cond := some uptoSmall }

/-- 'etuilaw04.HuffCodes', WHERE WHAT IT READS IS OF BULK AT MOST 1048576: true; the input reads as it did. -/
def huffCodesUptoRow : OpenClaim := { program := "ytmgmbcniamkfeaa", sum := "9ee18548c9b16693df28ab0214245837bcf49b653e5fe243dea158f0dc292dd0", func := "etui/etuilaw04.HuffCodes", spec := "huffCodes", apart := false, narrowed := true }
def HuffCodesUptoSaid : Prop := huffCodesUptoRow.holds Try.pinned (OpenSpec.upto huffCodesSpec)

/-- 'etuilaw04.HuffPrefix', WHERE WHAT IT READS IS OF BULK AT MOST 1048576: true; the input reads as it did. -/
def huffPrefixUptoRow : OpenClaim := { program := "ytmgmbcniamkfeaa", sum := "9ee18548c9b16693df28ab0214245837bcf49b653e5fe243dea158f0dc292dd0", func := "etui/etuilaw04.HuffPrefix", spec := "huffPrefix", apart := false, narrowed := true }
def HuffPrefixUptoSaid : Prop := huffPrefixUptoRow.holds Try.pinned (OpenSpec.upto huffPrefixSpec)

/-- 'etuilaw04.HuffOrder', WHERE WHAT IT READS IS OF BULK AT MOST 1048576: true; the input reads as it did. -/
def huffOrderUptoRow : OpenClaim := { program := "ytmgmbcniamkfeaa", sum := "9ee18548c9b16693df28ab0214245837bcf49b653e5fe243dea158f0dc292dd0", func := "etui/etuilaw04.HuffOrder", spec := "huffOrder", apart := false, narrowed := true }
def HuffOrderUptoSaid : Prop := huffOrderUptoRow.holds Try.pinned (OpenSpec.upto huffOrderSpec)

/-- 'etuilaw04.HuffReads', WHERE WHAT IT READS IS OF BULK AT MOST 1048576: true; the input reads as it did. -/
def huffReadsUptoRow : OpenClaim := { program := "ytmgmbcniamkfeaa", sum := "9ee18548c9b16693df28ab0214245837bcf49b653e5fe243dea158f0dc292dd0", func := "etui/etuilaw04.HuffReads", spec := "huffReads", apart := false, narrowed := true }
def HuffReadsUptoSaid : Prop := huffReadsUptoRow.holds Try.pinned (OpenSpec.upto huffReadsSpec)

/-- 'etuilaw04.HuffBack', WHERE WHAT IT READS IS OF BULK AT MOST 1048576: true; the input reads as it did. -/
def huffBackUptoRow : OpenClaim := { program := "ytmgmbcniamkfeaa", sum := "9ee18548c9b16693df28ab0214245837bcf49b653e5fe243dea158f0dc292dd0", func := "etui/etuilaw04.HuffBack", spec := "huffBack", apart := false, narrowed := true }
def HuffBackUptoSaid : Prop := huffBackUptoRow.holds Try.pinned (OpenSpec.upto huffBackSpec)

/-- 'etuilaw06.InflateAnswers', WHERE WHAT IT READS IS OF BULK AT MOST 1048576: true; the input reads as it did. -/
def inflateAnswersUptoRow : OpenClaim := { program := "ytmgmbcniamkfeaa", sum := "9ee18548c9b16693df28ab0214245837bcf49b653e5fe243dea158f0dc292dd0", func := "etui/etuilaw06.InflateAnswers", spec := "inflateAnswers", unfollowed := true, recurses := true, apart := false, narrowed := true }
def InflateAnswersUptoSaid : Prop := inflateAnswersUptoRow.holds Try.pinned (OpenSpec.upto inflateAnswersSpec)

/-- 'etuilaw06.InflateTables', WHERE WHAT IT READS IS OF BULK AT MOST 1048576: true; the input reads as it did. -/
def inflateTablesUptoRow : OpenClaim := { program := "ytmgmbcniamkfeaa", sum := "9ee18548c9b16693df28ab0214245837bcf49b653e5fe243dea158f0dc292dd0", func := "etui/etuilaw06.InflateTables", spec := "inflateTables", unfollowed := true, recurses := true, apart := false, narrowed := true }
def InflateTablesUptoSaid : Prop := inflateTablesUptoRow.holds Try.pinned (OpenSpec.upto inflateTablesSpec)

/-- 'etuilaw06.InflateLimit', WHERE WHAT IT READS IS OF BULK AT MOST 1048576: true; the input reads as it did. -/
def inflateLimitUptoRow : OpenClaim := { program := "ytmgmbcniamkfeaa", sum := "9ee18548c9b16693df28ab0214245837bcf49b653e5fe243dea158f0dc292dd0", func := "etui/etuilaw06.InflateLimit", spec := "inflateLimit", unfollowed := true, recurses := true, apart := false, narrowed := true }
def InflateLimitUptoSaid : Prop := inflateLimitUptoRow.holds Try.pinned (OpenSpec.upto inflateLimitSpec)

/-- 'etuilaw06.InflateCuts', WHERE WHAT IT READS IS OF BULK AT MOST 1048576: true; the input reads as it did. -/
def inflateCutsUptoRow : OpenClaim := { program := "ytmgmbcniamkfeaa", sum := "9ee18548c9b16693df28ab0214245837bcf49b653e5fe243dea158f0dc292dd0", func := "etui/etuilaw06.InflateCuts", spec := "inflateCuts", unfollowed := true, recurses := true, apart := false, narrowed := true }
def InflateCutsUptoSaid : Prop := inflateCutsUptoRow.holds Try.pinned (OpenSpec.upto inflateCutsSpec)

/-- 'etuilaw06.InflateStored', WHERE WHAT IT READS IS OF BULK AT MOST 1048576: true; the input reads as it did. -/
def inflateStoredUptoRow : OpenClaim := { program := "ytmgmbcniamkfeaa", sum := "9ee18548c9b16693df28ab0214245837bcf49b653e5fe243dea158f0dc292dd0", func := "etui/etuilaw06.InflateStored", spec := "inflateStored", unfollowed := true, recurses := true, apart := false, narrowed := true }
def InflateStoredUptoSaid : Prop := inflateStoredUptoRow.holds Try.pinned (OpenSpec.upto inflateStoredSpec)

/-- 'etuilaw06.InflateTwo', WHERE WHAT IT READS IS OF BULK AT MOST 1048576: true; the input reads as it did. -/
def inflateTwoUptoRow : OpenClaim := { program := "ytmgmbcniamkfeaa", sum := "9ee18548c9b16693df28ab0214245837bcf49b653e5fe243dea158f0dc292dd0", func := "etui/etuilaw06.InflateTwo", spec := "inflateTwo", unfollowed := true, recurses := true, apart := false, narrowed := true }
def InflateTwoUptoSaid : Prop := inflateTwoUptoRow.holds Try.pinned (OpenSpec.upto inflateTwoSpec)

/-- 'etuilaw06.InflateFixed', WHERE WHAT IT READS IS OF BULK AT MOST 1048576: true; the input reads as it did. -/
def inflateFixedUptoRow : OpenClaim := { program := "ytmgmbcniamkfeaa", sum := "9ee18548c9b16693df28ab0214245837bcf49b653e5fe243dea158f0dc292dd0", func := "etui/etuilaw06.InflateFixed", spec := "inflateFixed", unfollowed := true, recurses := true, apart := false, narrowed := true }
def InflateFixedUptoSaid : Prop := inflateFixedUptoRow.holds Try.pinned (OpenSpec.upto inflateFixedSpec)

end Rows
end Go.Proofs.Ytmgmbcniamkfeaa
