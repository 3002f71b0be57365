/-
  No cell of these rows narrows 'for every input' (looked for: loops, veiled, ifaces, maps, wideKeys, modest, calm, conditions, laid).
  DERIVED. THE GIVEN ROWS OF THIS SEAT. 5 by the template 'for every input the law returns true; each argument reads behind the call as it read before'; 0 by the template 'total and deterministic' (their statements: YtggepbkhhnhnkaaTotals.lean).
  GIVEN WITH THE SEED: the statements are not yours to turn. If you find one false, say at which input.
  Laid BY PROGRAM, IN A SANDBOX (cutbox-rows.mjs): the forced cells as the released guide's own fill.sh prints them over the translation e2684e7c95c3a6b8… (all of the seat's roots in one cut). By AI agents, Wed Nov 11 2026. No macro, syntax, notation, axiom, sorry.
-/
import Derived.Test.YtggepbkhhnhnkaaChecked
import GoSem.Claim
import GoSem.ClaimJoined
import GoSem.ClaimMapViews
import Derived.JoinedTies
import Derived.KernelRfl
namespace Go.Proofs.Ytggepbkhhnhnkaa
/- THE CELL 'sum', in the pinned program and in every row, IS THE sha256 OF THE DUMP (.gsa) THAT YtggepbkhhnhnkaaProg.lean LOADS. Nothing in Lean hashes anything: it is a label: what it is worth is what the hold of that sum in a sandbox is worth. -/
noncomputable def Try.pinned : Pinned := { name := "ytggepbkhhnhnkaa", sum := "e2684e7c95c3a6b8eeaa4daa0853a7f6ceaa652c583cc9687f94d29404b8c509", checked := Try.checked }
namespace Rows
def none {H : Type} : Left H := { results := [], args := [] }

/-- 'gnomonlaw.TrieBuilds': WHATEVER THE INPUT: true; the input reads as it did. -/
def trieBuildsSpec : ChangeSpec := { name := "trieBuilds", fn := fun _ => fun
  | [d1, d2] => { results := [.lit (.bool true)], args := [d1, d2] }
  | _ => none }
def trieBuildsRow : OpenClaim := { program := "ytggepbkhhnhnkaa", sum := "e2684e7c95c3a6b8eeaa4daa0853a7f6ceaa652c583cc9687f94d29404b8c509", func := "gnomon/gnomonlaw.TrieBuilds", spec := "trieBuilds", inPlace := ["slices.overlaps[gnomon/api.Edge]"], unfollowed := true, recurses := true, apart := false }
def TrieBuildsSaid : Prop := trieBuildsRow.holds Try.pinned (OpenSpec.ofChange trieBuildsSpec)

/-- ITS FALSE NEIGHBOUR: 'it returns false'. Refute it at one input. -/
def trieBuildsWrong : ChangeSpec := { name := "trieBuilds", fn := fun _ => fun
  | [d1, d2] => { results := [.lit (.bool false)], args := [d1, d2] }
  | _ => none }
def TrieBuildsWrongFalsely : Prop := trieBuildsRow.holds Try.pinned (OpenSpec.ofChange trieBuildsWrong)

/-- 'gnomonlaw.TrieFinds': WHATEVER THE INPUT: true; the input reads as it did. -/
def trieFindsSpec : ChangeSpec := { name := "trieFinds", fn := fun _ => fun
  | [d1, d2] => { results := [.lit (.bool true)], args := [d1, d2] }
  | _ => none }
def trieFindsRow : OpenClaim := { program := "ytggepbkhhnhnkaa", sum := "e2684e7c95c3a6b8eeaa4daa0853a7f6ceaa652c583cc9687f94d29404b8c509", func := "gnomon/gnomonlaw.TrieFinds", spec := "trieFinds", inPlace := ["slices.overlaps[gnomon/api.Edge]"], unfollowed := true, recurses := true, apart := false }
def TrieFindsSaid : Prop := trieFindsRow.holds Try.pinned (OpenSpec.ofChange trieFindsSpec)

/-- ITS FALSE NEIGHBOUR: 'it returns false'. Refute it at one input. -/
def trieFindsWrong : ChangeSpec := { name := "trieFinds", fn := fun _ => fun
  | [d1, d2] => { results := [.lit (.bool false)], args := [d1, d2] }
  | _ => none }
def TrieFindsWrongFalsely : Prop := trieFindsRow.holds Try.pinned (OpenSpec.ofChange trieFindsWrong)

/-- 'gnomonlaw.TrieTrue': WHATEVER THE INPUT: true; the input reads as it did. -/
def trieTrueSpec : ChangeSpec := { name := "trieTrue", fn := fun _ => fun
  | [d1, d2, d3] => { results := [.lit (.bool true)], args := [d1, d2, d3] }
  | _ => none }
def trieTrueRow : OpenClaim := { program := "ytggepbkhhnhnkaa", sum := "e2684e7c95c3a6b8eeaa4daa0853a7f6ceaa652c583cc9687f94d29404b8c509", func := "gnomon/gnomonlaw.TrieTrue", spec := "trieTrue", inPlace := ["slices.overlaps[gnomon/api.Edge]"], unfollowed := true, recurses := true, apart := false }
def TrieTrueSaid : Prop := trieTrueRow.holds Try.pinned (OpenSpec.ofChange trieTrueSpec)

/-- ITS FALSE NEIGHBOUR: 'it returns false'. Refute it at one input. -/
def trieTrueWrong : ChangeSpec := { name := "trieTrue", fn := fun _ => fun
  | [d1, d2, d3] => { results := [.lit (.bool false)], args := [d1, d2, d3] }
  | _ => none }
def TrieTrueWrongFalsely : Prop := trieTrueRow.holds Try.pinned (OpenSpec.ofChange trieTrueWrong)

/-- 'gnomonlaw.TrieOrder': WHATEVER THE INPUT: true; the input reads as it did. -/
def trieOrderSpec : ChangeSpec := { name := "trieOrder", fn := fun _ => fun
  | [d1, d2, d3, d4] => { results := [.lit (.bool true)], args := [d1, d2, d3, d4] }
  | _ => none }
def trieOrderRow : OpenClaim := { program := "ytggepbkhhnhnkaa", sum := "e2684e7c95c3a6b8eeaa4daa0853a7f6ceaa652c583cc9687f94d29404b8c509", func := "gnomon/gnomonlaw.TrieOrder", spec := "trieOrder", inPlace := ["slices.overlaps[gnomon/api.Edge]"], unfollowed := true, recurses := true, apart := false }
def TrieOrderSaid : Prop := trieOrderRow.holds Try.pinned (OpenSpec.ofChange trieOrderSpec)

/-- ITS FALSE NEIGHBOUR: 'it returns false'. Refute it at one input. -/
def trieOrderWrong : ChangeSpec := { name := "trieOrder", fn := fun _ => fun
  | [d1, d2, d3, d4] => { results := [.lit (.bool false)], args := [d1, d2, d3, d4] }
  | _ => none }
def TrieOrderWrongFalsely : Prop := trieOrderRow.holds Try.pinned (OpenSpec.ofChange trieOrderWrong)

/-- 'gnomonlaw.TrieMore': WHATEVER THE INPUT: true; the input reads as it did. -/
def trieMoreSpec : ChangeSpec := { name := "trieMore", fn := fun _ => fun
  | [d1, d2, d3] => { results := [.lit (.bool true)], args := [d1, d2, d3] }
  | _ => none }
def trieMoreRow : OpenClaim := { program := "ytggepbkhhnhnkaa", sum := "e2684e7c95c3a6b8eeaa4daa0853a7f6ceaa652c583cc9687f94d29404b8c509", func := "gnomon/gnomonlaw.TrieMore", spec := "trieMore", inPlace := ["slices.overlaps[gnomon/api.Edge]"], unfollowed := true, recurses := true, apart := false }
def TrieMoreSaid : Prop := trieMoreRow.holds Try.pinned (OpenSpec.ofChange trieMoreSpec)

/-- ITS FALSE NEIGHBOUR: 'it returns false'. Refute it at one input. -/
def trieMoreWrong : ChangeSpec := { name := "trieMore", fn := fun _ => fun
  | [d1, d2, d3] => { results := [.lit (.bool false)], args := [d1, d2, d3] }
  | _ => none }
def TrieMoreWrongFalsely : Prop := trieMoreRow.holds Try.pinned (OpenSpec.ofChange trieMoreWrong)

/- THE SECOND FORM. 'bulk': how many values and letters a reading holds, each counted each time it is reached (what is shared counts as often as it is met; a slice's spare places count too). A statement '..UptoSaid' is the law's where the arguments, and the package variables that the reading takes, are together of bulk at most 1048576: NARROWER than '..Said'. Prove '..Said' where nothing that the law and all that it calls make is longer than what came in: it says more and counts as full. Else prove '..UptoSaid'. A law counts once. -/
mutual
def uptoBulk {H : Type} : DataW H → Nat
  | .lit (.string bytes) => bytes.length + 1
  | .lit _ => 1
  | .nil => 1
  | .ptr d => uptoBulk d + 1
  | .slice elems spare => uptoBulkAll elems + uptoBulkAll spare + 1
  | .agg parts => uptoBulkAll parts + 1
  | .iface _ d => uptoBulk d + 1
  | .map entries => uptoBulkEntries entries + 1
  | .held _ => 1
def uptoBulkAll {H : Type} : List (DataW H) → Nat
  | [] => 0
  | d :: r => uptoBulk d + uptoBulkAll r
def uptoBulkEntries {H : Type} : List (Lit × DataW H) → Nat
  | [] => 0
  | x :: r => uptoBulkEntry x + uptoBulkEntries r
def uptoBulkEntry {H : Type} : Lit × DataW H → Nat
  | (.string bytes, d) => bytes.length + uptoBulk d + 1
  | (_, d) => uptoBulk d + 1
 end
def uptoSmall : (H : Type) → List (DataW H) → Bool := fun _ ds => decide (uptoBulkAll ds ≤ 1048576)
def OpenSpec.upto (s : _root_.Go.ChangeSpec) : _root_.Go.OpenSpec := { _root_.Go.OpenSpec.ofChange s with cond := some uptoSmall }

/-- 'gnomonlaw.TrieBuilds', WHERE WHAT IT READS IS OF BULK AT MOST 1048576: true; the input reads as it did. -/
def trieBuildsUptoRow : OpenClaim := { program := "ytggepbkhhnhnkaa", sum := "e2684e7c95c3a6b8eeaa4daa0853a7f6ceaa652c583cc9687f94d29404b8c509", func := "gnomon/gnomonlaw.TrieBuilds", spec := "trieBuilds", inPlace := ["slices.overlaps[gnomon/api.Edge]"], unfollowed := true, recurses := true, apart := false, narrowed := true }
def TrieBuildsUptoSaid : Prop := trieBuildsUptoRow.holds Try.pinned (OpenSpec.upto trieBuildsSpec)

/-- 'gnomonlaw.TrieFinds', WHERE WHAT IT READS IS OF BULK AT MOST 1048576: true; the input reads as it did. -/
def trieFindsUptoRow : OpenClaim := { program := "ytggepbkhhnhnkaa", sum := "e2684e7c95c3a6b8eeaa4daa0853a7f6ceaa652c583cc9687f94d29404b8c509", func := "gnomon/gnomonlaw.TrieFinds", spec := "trieFinds", inPlace := ["slices.overlaps[gnomon/api.Edge]"], unfollowed := true, recurses := true, apart := false, narrowed := true }
def TrieFindsUptoSaid : Prop := trieFindsUptoRow.holds Try.pinned (OpenSpec.upto trieFindsSpec)

/-- 'gnomonlaw.TrieTrue', WHERE WHAT IT READS IS OF BULK AT MOST 1048576: true; the input reads as it did. -/
def trieTrueUptoRow : OpenClaim := { program := "ytggepbkhhnhnkaa", sum := "e2684e7c95c3a6b8eeaa4daa0853a7f6ceaa652c583cc9687f94d29404b8c509", func := "gnomon/gnomonlaw.TrieTrue", spec := "trieTrue", inPlace := ["slices.overlaps[gnomon/api.Edge]"], unfollowed := true, recurses := true, apart := false, narrowed := true }
def TrieTrueUptoSaid : Prop := trieTrueUptoRow.holds Try.pinned (OpenSpec.upto trieTrueSpec)

/-- 'gnomonlaw.TrieOrder', WHERE WHAT IT READS IS OF BULK AT MOST 1048576: true; the input reads as it did. -/
def trieOrderUptoRow : OpenClaim := { program := "ytggepbkhhnhnkaa", sum := "e2684e7c95c3a6b8eeaa4daa0853a7f6ceaa652c583cc9687f94d29404b8c509", func := "gnomon/gnomonlaw.TrieOrder", spec := "trieOrder", inPlace := ["slices.overlaps[gnomon/api.Edge]"], unfollowed := true, recurses := true, apart := false, narrowed := true }
def TrieOrderUptoSaid : Prop := trieOrderUptoRow.holds Try.pinned (OpenSpec.upto trieOrderSpec)

/-- 'gnomonlaw.TrieMore', WHERE WHAT IT READS IS OF BULK AT MOST 1048576: true; the input reads as it did. -/
def trieMoreUptoRow : OpenClaim := { program := "ytggepbkhhnhnkaa", sum := "e2684e7c95c3a6b8eeaa4daa0853a7f6ceaa652c583cc9687f94d29404b8c509", func := "gnomon/gnomonlaw.TrieMore", spec := "trieMore", inPlace := ["slices.overlaps[gnomon/api.Edge]"], unfollowed := true, recurses := true, apart := false, narrowed := true }
def TrieMoreUptoSaid : Prop := trieMoreUptoRow.holds Try.pinned (OpenSpec.upto trieMoreSpec)

end Rows
end Go.Proofs.Ytggepbkhhnhnkaa
