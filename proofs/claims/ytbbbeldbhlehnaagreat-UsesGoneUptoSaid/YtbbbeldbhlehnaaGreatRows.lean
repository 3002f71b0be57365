/-
  No cell of these rows narrows 'for every input' (looked for: loops, veiled, ifaces, maps, wideKeys, modest, calm, conditions, laid).
  DERIVED. THE GIVEN ROWS OF THIS SEAT. 3 by the template 'for every input the law returns true; each argument reads behind the call as it read before'; 0 by the template 'total and deterministic' (their statements: YtbbbeldbhlehnaaGreatTotals.lean).
  GIVEN WITH THE SEED: the statements are not yours to turn. If you find one false, say at which input.
  Laid BY PROGRAM, IN A SANDBOX (cutbox-rows.mjs): the forced cells as the released guide's own fill.sh prints them over the translation 307bbe5e97877726… (all of the seat's roots in one cut). By AI agents, Wed Nov 11 2026. No macro, syntax, notation, axiom, sorry.
-/
import Derived.Test.YtbbbeldbhlehnaaGreatChecked
import GoSem.Claim
import GoSem.ClaimJoined
import GoSem.ClaimMapViews
import Derived.JoinedTies
import Derived.KernelRfl
namespace Go.Proofs.YtbbbeldbhlehnaaGreat
/- THE CELL 'sum', in the pinned program and in every row, IS THE sha256 OF THE DUMP (.gsa) THAT YtbbbeldbhlehnaaGreatProg.lean LOADS. Nothing in Lean hashes anything: it is a label: what it is worth is what the hold of that sum in a sandbox is worth. -/
noncomputable def Tryz.pinned : Pinned := { name := "ytbbbeldbhlehnaagreat", sum := "307bbe5e97877726b941008f6f200b89ccc2369da02d2bd11626becffab7b2c9", checked := Tryz.checked }
namespace Rows
def none {H : Type} : Left H := { results := [], args := [] }

/-- 'gnomonlaw.UsesTells': WHATEVER THE INPUT: true; the input reads as it did. -/
def usesTellsSpec : ChangeSpec := { name := "usesTells", fn := fun _ => fun
  | [d1, d2, d3, d4, d5] => { results := [.lit (.bool true)], args := [d1, d2, d3, d4, d5] }
  | _ => none }
def usesTellsRow : OpenClaim := { program := "ytbbbeldbhlehnaagreat", sum := "307bbe5e97877726b941008f6f200b89ccc2369da02d2bd11626becffab7b2c9", func := "gnomon/gnomonlaw.UsesTells", spec := "usesTells", inPlace := ["internal/bytealg.IndexByteString", "internal/bytealg.IndexString"], unfollowed := true, recurses := true, named := ["internal/bytealg.MaxLen"], apart := false }
def UsesTellsSaid : Prop := usesTellsRow.holds Tryz.pinned (OpenSpec.ofChange usesTellsSpec)

/-- ITS FALSE NEIGHBOUR: 'it returns false'. Refute it at one input. -/
def usesTellsWrong : ChangeSpec := { name := "usesTells", fn := fun _ => fun
  | [d1, d2, d3, d4, d5] => { results := [.lit (.bool false)], args := [d1, d2, d3, d4, d5] }
  | _ => none }
def UsesTellsWrongFalsely : Prop := usesTellsRow.holds Tryz.pinned (OpenSpec.ofChange usesTellsWrong)

/-- 'gnomonlaw.UsesTrue': WHATEVER THE INPUT: true; the input reads as it did. -/
def usesTrueSpec : ChangeSpec := { name := "usesTrue", fn := fun _ => fun
  | [d1, d2, d3, d4, d5, d6] => { results := [.lit (.bool true)], args := [d1, d2, d3, d4, d5, d6] }
  | _ => none }
def usesTrueRow : OpenClaim := { program := "ytbbbeldbhlehnaagreat", sum := "307bbe5e97877726b941008f6f200b89ccc2369da02d2bd11626becffab7b2c9", func := "gnomon/gnomonlaw.UsesTrue", spec := "usesTrue", inPlace := ["internal/bytealg.IndexByteString", "internal/bytealg.IndexString"], unfollowed := true, recurses := true, named := ["internal/bytealg.MaxLen"], apart := false }
def UsesTrueSaid : Prop := usesTrueRow.holds Tryz.pinned (OpenSpec.ofChange usesTrueSpec)

/-- ITS FALSE NEIGHBOUR: 'it returns false'. Refute it at one input. -/
def usesTrueWrong : ChangeSpec := { name := "usesTrue", fn := fun _ => fun
  | [d1, d2, d3, d4, d5, d6] => { results := [.lit (.bool false)], args := [d1, d2, d3, d4, d5, d6] }
  | _ => none }
def UsesTrueWrongFalsely : Prop := usesTrueRow.holds Tryz.pinned (OpenSpec.ofChange usesTrueWrong)

/-- 'gnomonlaw.UsesGone': WHATEVER THE INPUT: true; the input reads as it did. -/
def usesGoneSpec : ChangeSpec := { name := "usesGone", fn := fun _ => fun
  | [d1, d2, d3, d4, d5, d6] => { results := [.lit (.bool true)], args := [d1, d2, d3, d4, d5, d6] }
  | _ => none }
def usesGoneRow : OpenClaim := { program := "ytbbbeldbhlehnaagreat", sum := "307bbe5e97877726b941008f6f200b89ccc2369da02d2bd11626becffab7b2c9", func := "gnomon/gnomonlaw.UsesGone", spec := "usesGone", inPlace := ["internal/bytealg.IndexByteString", "internal/bytealg.IndexString"], unfollowed := true, recurses := true, named := ["internal/bytealg.MaxLen"], apart := false }
def UsesGoneSaid : Prop := usesGoneRow.holds Tryz.pinned (OpenSpec.ofChange usesGoneSpec)

/-- ITS FALSE NEIGHBOUR: 'it returns false'. Refute it at one input. -/
def usesGoneWrong : ChangeSpec := { name := "usesGone", fn := fun _ => fun
  | [d1, d2, d3, d4, d5, d6] => { results := [.lit (.bool false)], args := [d1, d2, d3, d4, d5, d6] }
  | _ => none }
def UsesGoneWrongFalsely : Prop := usesGoneRow.holds Tryz.pinned (OpenSpec.ofChange usesGoneWrong)

/- THE SECOND FORM. 'bulk': how many values and letters a reading holds, each counted each time it is reached (what is shared counts as often as it is met; a slice's spare places count too). A statement '..UptoSaid' is the law's where the arguments, and the package variables that the reading takes, are together of bulk at most 1048576: NARROWER than '..Said'. Prove '..Said' where nothing that the law and all that it calls make is longer than what came in: it says more and counts as full. Else prove '..UptoSaid'. A law counts once. -/
mutual
def uptoBulk {H : Type} : DataW H → Nat
  | .lit (.string bytes) => bytes.length + 1
  | .lit _ => 1
  | .nil => 1
  | .ptr d => uptoBulk d + 1
  | .slice elems spare => uptoBulkAll elems + uptoBulkAll spare + 1
  | .agg parts => uptoBulkAll parts + 1
  | .iface _ d => uptoBulk d + 1
  | .map entries => uptoBulkEntries entries + 1
  | .held _ => 1
def uptoBulkAll {H : Type} : List (DataW H) → Nat
  | [] => 0
  | d :: r => uptoBulk d + uptoBulkAll r
def uptoBulkEntries {H : Type} : List (Lit × DataW H) → Nat
  | [] => 0
  | x :: r => uptoBulkEntry x + uptoBulkEntries r
def uptoBulkEntry {H : Type} : Lit × DataW H → Nat
  | (.string bytes, d) => bytes.length + uptoBulk d + 1
  | (_, d) => uptoBulk d + 1
 end
def uptoSmall : (H : Type) → List (DataW H) → Bool := fun _ ds => decide (uptoBulkAll ds ≤ 1048576)
def OpenSpec.upto (s : _root_.Go.ChangeSpec) : _root_.Go.OpenSpec := { _root_.Go.OpenSpec.ofChange s with cond := some uptoSmall }

/-- 'gnomonlaw.UsesTells', WHERE WHAT IT READS IS OF BULK AT MOST 1048576: true; the input reads as it did. -/
def usesTellsUptoRow : OpenClaim := { program := "ytbbbeldbhlehnaagreat", sum := "307bbe5e97877726b941008f6f200b89ccc2369da02d2bd11626becffab7b2c9", func := "gnomon/gnomonlaw.UsesTells", spec := "usesTells", inPlace := ["internal/bytealg.IndexByteString", "internal/bytealg.IndexString"], unfollowed := true, recurses := true, named := ["internal/bytealg.MaxLen"], apart := false, narrowed := true }
def UsesTellsUptoSaid : Prop := usesTellsUptoRow.holds Tryz.pinned (OpenSpec.upto usesTellsSpec)

/-- 'gnomonlaw.UsesTrue', WHERE WHAT IT READS IS OF BULK AT MOST 1048576: true; the input reads as it did. -/
def usesTrueUptoRow : OpenClaim := { program := "ytbbbeldbhlehnaagreat", sum := "307bbe5e97877726b941008f6f200b89ccc2369da02d2bd11626becffab7b2c9", func := "gnomon/gnomonlaw.UsesTrue", spec := "usesTrue", inPlace := ["internal/bytealg.IndexByteString", "internal/bytealg.IndexString"], unfollowed := true, recurses := true, named := ["internal/bytealg.MaxLen"], apart := false, narrowed := true }
def UsesTrueUptoSaid : Prop := usesTrueUptoRow.holds Tryz.pinned (OpenSpec.upto usesTrueSpec)

/-- 'gnomonlaw.UsesGone', WHERE WHAT IT READS IS OF BULK AT MOST 1048576: true; the input reads as it did. -/
def usesGoneUptoRow : OpenClaim := { program := "ytbbbeldbhlehnaagreat", sum := "307bbe5e97877726b941008f6f200b89ccc2369da02d2bd11626becffab7b2c9", func := "gnomon/gnomonlaw.UsesGone", spec := "usesGone", inPlace := ["internal/bytealg.IndexByteString", "internal/bytealg.IndexString"], unfollowed := true, recurses := true, named := ["internal/bytealg.MaxLen"], apart := false, narrowed := true }
def UsesGoneUptoSaid : Prop := usesGoneUptoRow.holds Tryz.pinned (OpenSpec.upto usesGoneSpec)

end Rows
end Go.Proofs.YtbbbeldbhlehnaaGreat
