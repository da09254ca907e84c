/-
  No cell of these rows narrows 'for every input' (looked for: loops, veiled, ifaces, maps, wideKeys, modest, calm, conditions, laid).
  DERIVED. THE GIVEN ROWS OF THIS SEAT. 5 by the template 'for every input the law returns true; each argument reads behind the call as it read before'; 0 by the template 'total and deterministic' (their statements: YtljlflcgpbenpaaTotals.lean).
  GIVEN WITH THE SEED: the statements are not yours to turn. If you find one false, say at which input.
  Laid BY PROGRAM, IN A SANDBOX (cutbox-rows.mjs): the forced cells as the released guide's own fill.sh prints them over the translation fbeae82c307480f8… (all of the seat's roots in one cut). By AI agents, Wed Nov 11 2026. No macro, syntax, notation, axiom, sorry.
-/
import Derived.Test.YtljlflcgpbenpaaChecked
import GoSem.Claim
import GoSem.ClaimJoined
import GoSem.ClaimMapViews
import Derived.JoinedTies
import Derived.KernelRfl
namespace Go.Proofs.Ytljlflcgpbenpaa
/- THE CELL 'sum', in the pinned program and in every row, IS THE sha256 OF THE DUMP (.gsa) THAT YtljlflcgpbenpaaProg.lean LOADS. Nothing in Lean hashes anything: it is a label: what it is worth is what the hold of that sum in a sandbox is worth. -/
noncomputable def Try.pinned : Pinned := { name := "ytljlflcgpbenpaa", sum := "fbeae82c307480f897a85e5e26dc883a719396e11106a92cda2d782b9cf13f2b", checked := Try.checked }
namespace Rows
def none {H : Type} : Left H := { results := [], args := [] }

/-- 'etuilaw05.LensOrder': WHATEVER THE INPUT: true; the input reads as it did. -/
def lensOrderSpec : ChangeSpec := { name := "lensOrder", fn := fun _ => fun
  | [d1, d2] => { results := [.lit (.bool true)], args := [d1, d2] }
  | _ => none }
def lensOrderRow : OpenClaim := { program := "ytljlflcgpbenpaa", sum := "fbeae82c307480f897a85e5e26dc883a719396e11106a92cda2d782b9cf13f2b", func := "etui/etuilaw05.LensOrder", spec := "lensOrder", unfollowed := true, recurses := true, apart := false }
def LensOrderSaid : Prop := lensOrderRow.holds Try.pinned (OpenSpec.ofChange lensOrderSpec)

/-- ITS FALSE NEIGHBOUR: 'it returns false'. Refute it at one input. -/
def lensOrderWrong : ChangeSpec := { name := "lensOrder", fn := fun _ => fun
  | [d1, d2] => { results := [.lit (.bool false)], args := [d1, d2] }
  | _ => none }
def LensOrderWrongFalsely : Prop := lensOrderRow.holds Try.pinned (OpenSpec.ofChange lensOrderWrong)

/-- 'etuilaw05.LensPacks': WHATEVER THE INPUT: true; the input reads as it did. -/
def lensPacksSpec : ChangeSpec := { name := "lensPacks", fn := fun _ => fun
  | [d1, d2] => { results := [.lit (.bool true)], args := [d1, d2] }
  | _ => none }
def lensPacksRow : OpenClaim := { program := "ytljlflcgpbenpaa", sum := "fbeae82c307480f897a85e5e26dc883a719396e11106a92cda2d782b9cf13f2b", func := "etui/etuilaw05.LensPacks", spec := "lensPacks", unfollowed := true, recurses := true, apart := false }
def LensPacksSaid : Prop := lensPacksRow.holds Try.pinned (OpenSpec.ofChange lensPacksSpec)

/-- ITS FALSE NEIGHBOUR: 'it returns false'. Refute it at one input. -/
def lensPacksWrong : ChangeSpec := { name := "lensPacks", fn := fun _ => fun
  | [d1, d2] => { results := [.lit (.bool false)], args := [d1, d2] }
  | _ => none }
def LensPacksWrongFalsely : Prop := lensPacksRow.holds Try.pinned (OpenSpec.ofChange lensPacksWrong)

/-- 'etuilaw05.LensScale': WHATEVER THE INPUT: true; the input reads as it did. -/
def lensScaleSpec : ChangeSpec := { name := "lensScale", fn := fun _ => fun
  | [d1, d2, d3] => { results := [.lit (.bool true)], args := [d1, d2, d3] }
  | _ => none }
def lensScaleRow : OpenClaim := { program := "ytljlflcgpbenpaa", sum := "fbeae82c307480f897a85e5e26dc883a719396e11106a92cda2d782b9cf13f2b", func := "etui/etuilaw05.LensScale", spec := "lensScale", unfollowed := true, recurses := true, apart := false }
def LensScaleSaid : Prop := lensScaleRow.holds Try.pinned (OpenSpec.ofChange lensScaleSpec)

/-- ITS FALSE NEIGHBOUR: 'it returns false'. Refute it at one input. -/
def lensScaleWrong : ChangeSpec := { name := "lensScale", fn := fun _ => fun
  | [d1, d2, d3] => { results := [.lit (.bool false)], args := [d1, d2, d3] }
  | _ => none }
def LensScaleWrongFalsely : Prop := lensScaleRow.holds Try.pinned (OpenSpec.ofChange lensScaleWrong)

/-- 'etuilaw05.LensFlat': WHATEVER THE INPUT: true; the input reads as it did. -/
def lensFlatSpec : ChangeSpec := { name := "lensFlat", fn := fun _ => fun
  | [d1, d2, d3] => { results := [.lit (.bool true)], args := [d1, d2, d3] }
  | _ => none }
def lensFlatRow : OpenClaim := { program := "ytljlflcgpbenpaa", sum := "fbeae82c307480f897a85e5e26dc883a719396e11106a92cda2d782b9cf13f2b", func := "etui/etuilaw05.LensFlat", spec := "lensFlat", unfollowed := true, recurses := true, apart := false }
def LensFlatSaid : Prop := lensFlatRow.holds Try.pinned (OpenSpec.ofChange lensFlatSpec)

/-- ITS FALSE NEIGHBOUR: 'it returns false'. Refute it at one input. -/
def lensFlatWrong : ChangeSpec := { name := "lensFlat", fn := fun _ => fun
  | [d1, d2, d3] => { results := [.lit (.bool false)], args := [d1, d2, d3] }
  | _ => none }
def LensFlatWrongFalsely : Prop := lensFlatRow.holds Try.pinned (OpenSpec.ofChange lensFlatWrong)

/-- 'etuilaw05.LensBuilds': WHATEVER THE INPUT: true; the input reads as it did. -/
def lensBuildsSpec : ChangeSpec := { name := "lensBuilds", fn := fun _ => fun
  | [d1, d2] => { results := [.lit (.bool true)], args := [d1, d2] }
  | _ => none }
def lensBuildsRow : OpenClaim := { program := "ytljlflcgpbenpaa", sum := "fbeae82c307480f897a85e5e26dc883a719396e11106a92cda2d782b9cf13f2b", func := "etui/etuilaw05.LensBuilds", spec := "lensBuilds", unfollowed := true, recurses := true, apart := false }
def LensBuildsSaid : Prop := lensBuildsRow.holds Try.pinned (OpenSpec.ofChange lensBuildsSpec)

/-- ITS FALSE NEIGHBOUR: 'it returns false'. Refute it at one input. -/
def lensBuildsWrong : ChangeSpec := { name := "lensBuilds", fn := fun _ => fun
  | [d1, d2] => { results := [.lit (.bool false)], args := [d1, d2] }
  | _ => none }
def LensBuildsWrongFalsely : Prop := lensBuildsRow.holds Try.pinned (OpenSpec.ofChange lensBuildsWrong)

/- THE SECOND FORM. 'bulk': how many values and letters a reading holds, each counted each time it is reached (what is shared counts as often as it is met; a slice's spare places count too). A statement '..UptoSaid' is the law's where the arguments, and the package variables that the reading takes, are together of bulk at most 1048576: NARROWER than '..Said'. Prove '..Said' where nothing that the law and all that it calls make is longer than what came in: it says more and counts as full. Else prove '..UptoSaid'. A law counts once. -/
mutual
def uptoBulk {H : Type} : DataW H → Nat
  | .lit (.string bytes) => bytes.length + 1
  | .lit _ => 1
  | .nil => 1
  | .ptr d => uptoBulk d + 1
  | .slice elems spare => uptoBulkAll elems + uptoBulkAll spare + 1
  | .agg parts => uptoBulkAll parts + 1
  | .iface _ d => uptoBulk d + 1
  | .map entries => uptoBulkEntries entries + 1
  | .held _ => 1
def uptoBulkAll {H : Type} : List (DataW H) → Nat
  | [] => 0
  | d :: r => uptoBulk d + uptoBulkAll r
def uptoBulkEntries {H : Type} : List (Lit × DataW H) → Nat
  | [] => 0
  | x :: r => uptoBulkEntry x + uptoBulkEntries r
def uptoBulkEntry {H : Type} : Lit × DataW H → Nat
  | (.string bytes, d) => bytes.length + uptoBulk d + 1
  | (_, d) => uptoBulk d + 1
 end
def uptoSmall : (H : Type) → List (DataW H) → Bool := fun _ ds => decide (uptoBulkAll ds ≤ 1048576)
def OpenSpec.upto (s : _root_.Go.ChangeSpec) : _root_.Go.OpenSpec := { _root_.Go.OpenSpec.ofChange s with cond := some uptoSmall }

/-- 'etuilaw05.LensOrder', WHERE WHAT IT READS IS OF BULK AT MOST 1048576: true; the input reads as it did. -/
def lensOrderUptoRow : OpenClaim := { program := "ytljlflcgpbenpaa", sum := "fbeae82c307480f897a85e5e26dc883a719396e11106a92cda2d782b9cf13f2b", func := "etui/etuilaw05.LensOrder", spec := "lensOrder", unfollowed := true, recurses := true, apart := false, narrowed := true }
def LensOrderUptoSaid : Prop := lensOrderUptoRow.holds Try.pinned (OpenSpec.upto lensOrderSpec)

/-- 'etuilaw05.LensPacks', WHERE WHAT IT READS IS OF BULK AT MOST 1048576: true; the input reads as it did. -/
def lensPacksUptoRow : OpenClaim := { program := "ytljlflcgpbenpaa", sum := "fbeae82c307480f897a85e5e26dc883a719396e11106a92cda2d782b9cf13f2b", func := "etui/etuilaw05.LensPacks", spec := "lensPacks", unfollowed := true, recurses := true, apart := false, narrowed := true }
def LensPacksUptoSaid : Prop := lensPacksUptoRow.holds Try.pinned (OpenSpec.upto lensPacksSpec)

/-- 'etuilaw05.LensScale', WHERE WHAT IT READS IS OF BULK AT MOST 1048576: true; the input reads as it did. -/
def lensScaleUptoRow : OpenClaim := { program := "ytljlflcgpbenpaa", sum := "fbeae82c307480f897a85e5e26dc883a719396e11106a92cda2d782b9cf13f2b", func := "etui/etuilaw05.LensScale", spec := "lensScale", unfollowed := true, recurses := true, apart := false, narrowed := true }
def LensScaleUptoSaid : Prop := lensScaleUptoRow.holds Try.pinned (OpenSpec.upto lensScaleSpec)

/-- 'etuilaw05.LensFlat', WHERE WHAT IT READS IS OF BULK AT MOST 1048576: true; the input reads as it did. -/
def lensFlatUptoRow : OpenClaim := { program := "ytljlflcgpbenpaa", sum := "fbeae82c307480f897a85e5e26dc883a719396e11106a92cda2d782b9cf13f2b", func := "etui/etuilaw05.LensFlat", spec := "lensFlat", unfollowed := true, recurses := true, apart := false, narrowed := true }
def LensFlatUptoSaid : Prop := lensFlatUptoRow.holds Try.pinned (OpenSpec.upto lensFlatSpec)

/-- 'etuilaw05.LensBuilds', WHERE WHAT IT READS IS OF BULK AT MOST 1048576: true; the input reads as it did. -/
def lensBuildsUptoRow : OpenClaim := { program := "ytljlflcgpbenpaa", sum := "fbeae82c307480f897a85e5e26dc883a719396e11106a92cda2d782b9cf13f2b", func := "etui/etuilaw05.LensBuilds", spec := "lensBuilds", unfollowed := true, recurses := true, apart := false, narrowed := true }
def LensBuildsUptoSaid : Prop := lensBuildsUptoRow.holds Try.pinned (OpenSpec.upto lensBuildsSpec)

end Rows
end Go.Proofs.Ytljlflcgpbenpaa
