/-
  No cell of these rows narrows 'for every input' (looked for: loops, veiled, ifaces, maps, wideKeys, modest, calm, conditions, laid).
  DERIVED. THE GIVEN ROWS OF THIS SEAT. 3 by the template 'for every input the law returns true; each argument reads behind the call as it read before'; 0 by the template 'total and deterministic' (their statements: YtdonhmdeijidkaaTotals.lean).
  GIVEN WITH THE SEED: the statements are not yours to turn. If you find one false, say at which input.
  Laid BY PROGRAM, IN A SANDBOX (cutbox-rows.mjs): the forced cells as the released guide's own fill.sh prints them over the translation 54869c8cf1e2cc69… (all of the seat's roots in one cut). By AI agents, Wed Nov 11 2026. No macro, syntax, notation, axiom, sorry.
-/
import Derived.Test.YtdonhmdeijidkaaChecked
import GoSem.Claim
import GoSem.ClaimJoined
import GoSem.ClaimMapViews
import Derived.JoinedTies
import Derived.KernelRfl
namespace Go.Proofs.Ytdonhmdeijidkaa
/- THE CELL 'sum', in the pinned program and in every row, IS THE sha256 OF THE DUMP (.gsa) THAT YtdonhmdeijidkaaProg.lean LOADS. Nothing in Lean hashes anything: it is a label: what it is worth is what the hold of that sum in a sandbox is worth. -/
noncomputable def Try.pinned : Pinned := { name := "ytdonhmdeijidkaa", sum := "54869c8cf1e2cc698e0ec553d81d0c79e6717b2db39c430e0e7c2bb2d2d4bde5", checked := Try.checked }
namespace Rows
def none {H : Type} : Left H := { results := [], args := [] }

/-- 'registrarlaw15.FoldCounts': WHATEVER THE INPUT: true; the input reads as it did. -/
def foldCountsSpec : ChangeSpec := { name := "foldCounts", fn := fun _ => fun
  | [d1, d2, d3] => { results := [.lit (.bool true)], args := [d1, d2, d3] }
  | _ => none }
def foldCountsRow : OpenClaim := { program := "ytdonhmdeijidkaa", sum := "54869c8cf1e2cc698e0ec553d81d0c79e6717b2db39c430e0e7c2bb2d2d4bde5", func := "registrar/registrarlaw15.FoldCounts", spec := "foldCounts", inPlace := ["internal/bytealg.IndexByteString", "internal/bytealg.IndexString"], unfollowed := true, recurses := true, named := ["internal/bytealg.MaxLen"], apart := false }
def FoldCountsSaid : Prop := foldCountsRow.holds Try.pinned (OpenSpec.ofChange foldCountsSpec)

/-- ITS FALSE NEIGHBOUR: 'it returns false'. Refute it at one input. -/
def foldCountsWrong : ChangeSpec := { name := "foldCounts", fn := fun _ => fun
  | [d1, d2, d3] => { results := [.lit (.bool false)], args := [d1, d2, d3] }
  | _ => none }
def FoldCountsWrongFalsely : Prop := foldCountsRow.holds Try.pinned (OpenSpec.ofChange foldCountsWrong)

/-- 'registrarlaw15.FoldOrder': WHATEVER THE INPUT: true; the input reads as it did. -/
def foldOrderSpec : ChangeSpec := { name := "foldOrder", fn := fun _ => fun
  | [d1, d2] => { results := [.lit (.bool true)], args := [d1, d2] }
  | _ => none }
def foldOrderRow : OpenClaim := { program := "ytdonhmdeijidkaa", sum := "54869c8cf1e2cc698e0ec553d81d0c79e6717b2db39c430e0e7c2bb2d2d4bde5", func := "registrar/registrarlaw15.FoldOrder", spec := "foldOrder", inPlace := ["internal/bytealg.IndexByteString", "internal/bytealg.IndexString"], unfollowed := true, recurses := true, named := ["internal/bytealg.MaxLen"], apart := false }
def FoldOrderSaid : Prop := foldOrderRow.holds Try.pinned (OpenSpec.ofChange foldOrderSpec)

/-- ITS FALSE NEIGHBOUR: 'it returns false'. Refute it at one input. -/
def foldOrderWrong : ChangeSpec := { name := "foldOrder", fn := fun _ => fun
  | [d1, d2] => { results := [.lit (.bool false)], args := [d1, d2] }
  | _ => none }
def FoldOrderWrongFalsely : Prop := foldOrderRow.holds Try.pinned (OpenSpec.ofChange foldOrderWrong)

/-- 'registrarlaw15.FoldLatest': WHATEVER THE INPUT: true; the input reads as it did. -/
def foldLatestSpec : ChangeSpec := { name := "foldLatest", fn := fun _ => fun
  | [d1, d2] => { results := [.lit (.bool true)], args := [d1, d2] }
  | _ => none }
def foldLatestRow : OpenClaim := { program := "ytdonhmdeijidkaa", sum := "54869c8cf1e2cc698e0ec553d81d0c79e6717b2db39c430e0e7c2bb2d2d4bde5", func := "registrar/registrarlaw15.FoldLatest", spec := "foldLatest", inPlace := ["internal/bytealg.IndexByteString", "internal/bytealg.IndexString"], unfollowed := true, recurses := true, named := ["internal/bytealg.MaxLen"], apart := false }
def FoldLatestSaid : Prop := foldLatestRow.holds Try.pinned (OpenSpec.ofChange foldLatestSpec)

/-- ITS FALSE NEIGHBOUR: 'it returns false'. Refute it at one input. -/
def foldLatestWrong : ChangeSpec := { name := "foldLatest", fn := fun _ => fun
  | [d1, d2] => { results := [.lit (.bool false)], args := [d1, d2] }
  | _ => none }
def FoldLatestWrongFalsely : Prop := foldLatestRow.holds Try.pinned (OpenSpec.ofChange foldLatestWrong)

/- THE SECOND FORM. 'bulk': how many values and letters a reading holds, each counted each time it is reached (what is shared counts as often as it is met; a slice's spare places count too). A statement '..UptoSaid' is the law's where the arguments, and the package variables that the reading takes, are together of bulk at most 1048576: NARROWER than '..Said'. Prove '..Said' where nothing that the law and all that it calls make is longer than what came in: it says more and counts as full. Else prove '..UptoSaid'. A law counts once. -/
mutual
def uptoBulk {H : Type} : DataW H → Nat
  | .lit (.string bytes) => bytes.length + 1
  | .lit _ => 1
  | .nil => 1
  | .ptr d => uptoBulk d + 1
  | .slice elems spare => uptoBulkAll elems + uptoBulkAll spare + 1
  | .agg parts => uptoBulkAll parts + 1
  | .iface _ d => uptoBulk d + 1
  | .map entries => uptoBulkEntries entries + 1
  | .held _ => 1
def uptoBulkAll {H : Type} : List (DataW H) → Nat
  | [] => 0
  | d :: r => uptoBulk d + uptoBulkAll r
def uptoBulkEntries {H : Type} : List (Lit × DataW H) → Nat
  | [] => 0
  | x :: r => uptoBulkEntry x + uptoBulkEntries r
def uptoBulkEntry {H : Type} : Lit × DataW H → Nat
  | (.string bytes, d) => bytes.length + uptoBulk d + 1
  | (_, d) => uptoBulk d + 1
 end
def uptoSmall : (H : Type) → List (DataW H) → Bool := fun _ ds => decide (uptoBulkAll ds ≤ 1048576)
def OpenSpec.upto (s : _root_.Go.ChangeSpec) : _root_.Go.OpenSpec := { _root_.Go.OpenSpec.ofChange s with cond := some uptoSmall }

/-- 'registrarlaw15.FoldCounts', WHERE WHAT IT READS IS OF BULK AT MOST 1048576: true; the input reads as it did. -/
def foldCountsUptoRow : OpenClaim := { program := "ytdonhmdeijidkaa", sum := "54869c8cf1e2cc698e0ec553d81d0c79e6717b2db39c430e0e7c2bb2d2d4bde5", func := "registrar/registrarlaw15.FoldCounts", spec := "foldCounts", inPlace := ["internal/bytealg.IndexByteString", "internal/bytealg.IndexString"], unfollowed := true, recurses := true, named := ["internal/bytealg.MaxLen"], apart := false, narrowed := true }
def FoldCountsUptoSaid : Prop := foldCountsUptoRow.holds Try.pinned (OpenSpec.upto foldCountsSpec)

/-- 'registrarlaw15.FoldOrder', WHERE WHAT IT READS IS OF BULK AT MOST 1048576: true; the input reads as it did. -/
def foldOrderUptoRow : OpenClaim := { program := "ytdonhmdeijidkaa", sum := "54869c8cf1e2cc698e0ec553d81d0c79e6717b2db39c430e0e7c2bb2d2d4bde5", func := "registrar/registrarlaw15.FoldOrder", spec := "foldOrder", inPlace := ["internal/bytealg.IndexByteString", "internal/bytealg.IndexString"], unfollowed := true, recurses := true, named := ["internal/bytealg.MaxLen"], apart := false, narrowed := true }
def FoldOrderUptoSaid : Prop := foldOrderUptoRow.holds Try.pinned (OpenSpec.upto foldOrderSpec)

/-- 'registrarlaw15.FoldLatest', WHERE WHAT IT READS IS OF BULK AT MOST 1048576: true; the input reads as it did. -/
def foldLatestUptoRow : OpenClaim := { program := "ytdonhmdeijidkaa", sum := "54869c8cf1e2cc698e0ec553d81d0c79e6717b2db39c430e0e7c2bb2d2d4bde5", func := "registrar/registrarlaw15.FoldLatest", spec := "foldLatest", inPlace := ["internal/bytealg.IndexByteString", "internal/bytealg.IndexString"], unfollowed := true, recurses := true, named := ["internal/bytealg.MaxLen"], apart := false, narrowed := true }
def FoldLatestUptoSaid : Prop := foldLatestUptoRow.holds Try.pinned (OpenSpec.upto foldLatestSpec)

end Rows
end Go.Proofs.Ytdonhmdeijidkaa
