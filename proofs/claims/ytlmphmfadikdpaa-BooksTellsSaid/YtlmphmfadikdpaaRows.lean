/-
  No cell of these rows narrows 'for every input' (looked for: loops, veiled, ifaces, maps, wideKeys, modest, calm, conditions, laid).
  DERIVED. THE GIVEN ROWS OF THIS SEAT. 12 by the template 'for every input the law returns true; each argument reads behind the call as it read before'; 0 by the template 'total and deterministic' (their statements: YtlmphmfadikdpaaTotals.lean).
  GIVEN WITH THE SEED: the statements are not yours to turn. If you find one false, say at which input.
  Laid BY PROGRAM, IN A SANDBOX (cutbox-rows.mjs): the forced cells as the released guide's own fill.sh prints them over the translation 3fd38ce3e1d4f927… (all of the seat's roots in one cut). By AI agents, Wed Nov 11 2026. No macro, syntax, notation, axiom, sorry.
-/
import Derived.Test.YtlmphmfadikdpaaChecked
import GoSem.Claim
import GoSem.ClaimJoined
import GoSem.ClaimMapViews
import Derived.JoinedTies
import Derived.KernelRfl
namespace Go.Proofs.Ytlmphmfadikdpaa
/- THE CELL 'sum', in the pinned program and in every row, IS THE sha256 OF THE DUMP (.gsa) THAT YtlmphmfadikdpaaProg.lean LOADS. Nothing in Lean hashes anything: it is a label: what it is worth is what the hold of that sum in a sandbox is worth. -/
noncomputable def Try.pinned : Pinned := { name := "ytlmphmfadikdpaa", sum := "3fd38ce3e1d4f927a6b8d1782816b4260540f0cddca3b1316386206ba5081e6f", checked := Try.checked }
namespace Rows
def none {H : Type} : Left H := { results := [], args := [] }

/-- 'gnomonlaw.DaysTells': WHATEVER THE INPUT: true; the input reads as it did. -/
def daysTellsSpec : ChangeSpec := { name := "daysTells", fn := fun _ => fun
  | [d1, d2, d3, d4] => { results := [.lit (.bool true)], args := [d1, d2, d3, d4] }
  | _ => none }
def daysTellsRow : OpenClaim := { program := "ytlmphmfadikdpaa", sum := "3fd38ce3e1d4f927a6b8d1782816b4260540f0cddca3b1316386206ba5081e6f", func := "gnomon/gnomonlaw.DaysTells", spec := "daysTells", apart := false }
def DaysTellsSaid : Prop := daysTellsRow.holds Try.pinned (OpenSpec.ofChange daysTellsSpec)

/-- ITS FALSE NEIGHBOUR: 'it returns false'. Refute it at one input. -/
def daysTellsWrong : ChangeSpec := { name := "daysTells", fn := fun _ => fun
  | [d1, d2, d3, d4] => { results := [.lit (.bool false)], args := [d1, d2, d3, d4] }
  | _ => none }
def DaysTellsWrongFalsely : Prop := daysTellsRow.holds Try.pinned (OpenSpec.ofChange daysTellsWrong)

/-- 'gnomonlaw.DaysBack': WHATEVER THE INPUT: true; the input reads as it did. -/
def daysBackSpec : ChangeSpec := { name := "daysBack", fn := fun _ => fun
  | [d1, d2, d3, d4] => { results := [.lit (.bool true)], args := [d1, d2, d3, d4] }
  | _ => none }
def daysBackRow : OpenClaim := { program := "ytlmphmfadikdpaa", sum := "3fd38ce3e1d4f927a6b8d1782816b4260540f0cddca3b1316386206ba5081e6f", func := "gnomon/gnomonlaw.DaysBack", spec := "daysBack", apart := false }
def DaysBackSaid : Prop := daysBackRow.holds Try.pinned (OpenSpec.ofChange daysBackSpec)

/-- ITS FALSE NEIGHBOUR: 'it returns false'. Refute it at one input. -/
def daysBackWrong : ChangeSpec := { name := "daysBack", fn := fun _ => fun
  | [d1, d2, d3, d4] => { results := [.lit (.bool false)], args := [d1, d2, d3, d4] }
  | _ => none }
def DaysBackWrongFalsely : Prop := daysBackRow.holds Try.pinned (OpenSpec.ofChange daysBackWrong)

/-- 'gnomonlaw.DaysYear': WHATEVER THE INPUT: true; the input reads as it did. -/
def daysYearSpec : ChangeSpec := { name := "daysYear", fn := fun _ => fun
  | [d1, d2, d3] => { results := [.lit (.bool true)], args := [d1, d2, d3] }
  | _ => none }
def daysYearRow : OpenClaim := { program := "ytlmphmfadikdpaa", sum := "3fd38ce3e1d4f927a6b8d1782816b4260540f0cddca3b1316386206ba5081e6f", func := "gnomon/gnomonlaw.DaysYear", spec := "daysYear", apart := false }
def DaysYearSaid : Prop := daysYearRow.holds Try.pinned (OpenSpec.ofChange daysYearSpec)

/-- ITS FALSE NEIGHBOUR: 'it returns false'. Refute it at one input. -/
def daysYearWrong : ChangeSpec := { name := "daysYear", fn := fun _ => fun
  | [d1, d2, d3] => { results := [.lit (.bool false)], args := [d1, d2, d3] }
  | _ => none }
def DaysYearWrongFalsely : Prop := daysYearRow.holds Try.pinned (OpenSpec.ofChange daysYearWrong)

/-- 'gnomonlaw.PickTells': WHATEVER THE INPUT: true; the input reads as it did. -/
def pickTellsSpec : ChangeSpec := { name := "pickTells", fn := fun _ => fun
  | [d1, d2, d3] => { results := [.lit (.bool true)], args := [d1, d2, d3] }
  | _ => none }
def pickTellsRow : OpenClaim := { program := "ytlmphmfadikdpaa", sum := "3fd38ce3e1d4f927a6b8d1782816b4260540f0cddca3b1316386206ba5081e6f", func := "gnomon/gnomonlaw.PickTells", spec := "pickTells", unfollowed := true, recurses := true, apart := false }
def PickTellsSaid : Prop := pickTellsRow.holds Try.pinned (OpenSpec.ofChange pickTellsSpec)

/-- ITS FALSE NEIGHBOUR: 'it returns false'. Refute it at one input. -/
def pickTellsWrong : ChangeSpec := { name := "pickTells", fn := fun _ => fun
  | [d1, d2, d3] => { results := [.lit (.bool false)], args := [d1, d2, d3] }
  | _ => none }
def PickTellsWrongFalsely : Prop := pickTellsRow.holds Try.pinned (OpenSpec.ofChange pickTellsWrong)

/-- 'gnomonlaw.PickAgain': WHATEVER THE INPUT: true; the input reads as it did. -/
def pickAgainSpec : ChangeSpec := { name := "pickAgain", fn := fun _ => fun
  | [d1, d2, d3] => { results := [.lit (.bool true)], args := [d1, d2, d3] }
  | _ => none }
def pickAgainRow : OpenClaim := { program := "ytlmphmfadikdpaa", sum := "3fd38ce3e1d4f927a6b8d1782816b4260540f0cddca3b1316386206ba5081e6f", func := "gnomon/gnomonlaw.PickAgain", spec := "pickAgain", unfollowed := true, recurses := true, apart := false }
def PickAgainSaid : Prop := pickAgainRow.holds Try.pinned (OpenSpec.ofChange pickAgainSpec)

/-- ITS FALSE NEIGHBOUR: 'it returns false'. Refute it at one input. -/
def pickAgainWrong : ChangeSpec := { name := "pickAgain", fn := fun _ => fun
  | [d1, d2, d3] => { results := [.lit (.bool false)], args := [d1, d2, d3] }
  | _ => none }
def PickAgainWrongFalsely : Prop := pickAgainRow.holds Try.pinned (OpenSpec.ofChange pickAgainWrong)

/-- 'gnomonlaw.PickTrue': WHATEVER THE INPUT: true; the input reads as it did. -/
def pickTrueSpec : ChangeSpec := { name := "pickTrue", fn := fun _ => fun
  | [d1, d2, d3, d4] => { results := [.lit (.bool true)], args := [d1, d2, d3, d4] }
  | _ => none }
def pickTrueRow : OpenClaim := { program := "ytlmphmfadikdpaa", sum := "3fd38ce3e1d4f927a6b8d1782816b4260540f0cddca3b1316386206ba5081e6f", func := "gnomon/gnomonlaw.PickTrue", spec := "pickTrue", unfollowed := true, recurses := true, apart := false }
def PickTrueSaid : Prop := pickTrueRow.holds Try.pinned (OpenSpec.ofChange pickTrueSpec)

/-- ITS FALSE NEIGHBOUR: 'it returns false'. Refute it at one input. -/
def pickTrueWrong : ChangeSpec := { name := "pickTrue", fn := fun _ => fun
  | [d1, d2, d3, d4] => { results := [.lit (.bool false)], args := [d1, d2, d3, d4] }
  | _ => none }
def PickTrueWrongFalsely : Prop := pickTrueRow.holds Try.pinned (OpenSpec.ofChange pickTrueWrong)

/-- 'gnomonlaw.BooksTells': WHATEVER THE INPUT: true; the input reads as it did. -/
def booksTellsSpec : ChangeSpec := { name := "booksTells", fn := fun _ => fun
  | [d1, d2, d3] => { results := [.lit (.bool true)], args := [d1, d2, d3] }
  | _ => none }
def booksTellsRow : OpenClaim := { program := "ytlmphmfadikdpaa", sum := "3fd38ce3e1d4f927a6b8d1782816b4260540f0cddca3b1316386206ba5081e6f", func := "gnomon/gnomonlaw.BooksTells", spec := "booksTells", unfollowed := true, recurses := true, apart := false }
def BooksTellsSaid : Prop := booksTellsRow.holds Try.pinned (OpenSpec.ofChange booksTellsSpec)

/-- ITS FALSE NEIGHBOUR: 'it returns false'. Refute it at one input. -/
def booksTellsWrong : ChangeSpec := { name := "booksTells", fn := fun _ => fun
  | [d1, d2, d3] => { results := [.lit (.bool false)], args := [d1, d2, d3] }
  | _ => none }
def BooksTellsWrongFalsely : Prop := booksTellsRow.holds Try.pinned (OpenSpec.ofChange booksTellsWrong)

/-- 'gnomonlaw.BooksTrue': WHATEVER THE INPUT: true; the input reads as it did. -/
def booksTrueSpec : ChangeSpec := { name := "booksTrue", fn := fun _ => fun
  | [d1, d2, d3] => { results := [.lit (.bool true)], args := [d1, d2, d3] }
  | _ => none }
def booksTrueRow : OpenClaim := { program := "ytlmphmfadikdpaa", sum := "3fd38ce3e1d4f927a6b8d1782816b4260540f0cddca3b1316386206ba5081e6f", func := "gnomon/gnomonlaw.BooksTrue", spec := "booksTrue", unfollowed := true, recurses := true, apart := false }
def BooksTrueSaid : Prop := booksTrueRow.holds Try.pinned (OpenSpec.ofChange booksTrueSpec)

/-- ITS FALSE NEIGHBOUR: 'it returns false'. Refute it at one input. -/
def booksTrueWrong : ChangeSpec := { name := "booksTrue", fn := fun _ => fun
  | [d1, d2, d3] => { results := [.lit (.bool false)], args := [d1, d2, d3] }
  | _ => none }
def BooksTrueWrongFalsely : Prop := booksTrueRow.holds Try.pinned (OpenSpec.ofChange booksTrueWrong)

/-- 'gnomonlaw.RulesTells': WHATEVER THE INPUT: true; the input reads as it did. -/
def rulesTellsSpec : ChangeSpec := { name := "rulesTells", fn := fun _ => fun
  | [d1, d2, d3] => { results := [.lit (.bool true)], args := [d1, d2, d3] }
  | _ => none }
def rulesTellsRow : OpenClaim := { program := "ytlmphmfadikdpaa", sum := "3fd38ce3e1d4f927a6b8d1782816b4260540f0cddca3b1316386206ba5081e6f", func := "gnomon/gnomonlaw.RulesTells", spec := "rulesTells", unfollowed := true, recurses := true, apart := false }
def RulesTellsSaid : Prop := rulesTellsRow.holds Try.pinned (OpenSpec.ofChange rulesTellsSpec)

/-- ITS FALSE NEIGHBOUR: 'it returns false'. Refute it at one input. -/
def rulesTellsWrong : ChangeSpec := { name := "rulesTells", fn := fun _ => fun
  | [d1, d2, d3] => { results := [.lit (.bool false)], args := [d1, d2, d3] }
  | _ => none }
def RulesTellsWrongFalsely : Prop := rulesTellsRow.holds Try.pinned (OpenSpec.ofChange rulesTellsWrong)

/-- 'gnomonlaw.RulesLast': WHATEVER THE INPUT: true; the input reads as it did. -/
def rulesLastSpec : ChangeSpec := { name := "rulesLast", fn := fun _ => fun
  | [d1, d2, d3] => { results := [.lit (.bool true)], args := [d1, d2, d3] }
  | _ => none }
def rulesLastRow : OpenClaim := { program := "ytlmphmfadikdpaa", sum := "3fd38ce3e1d4f927a6b8d1782816b4260540f0cddca3b1316386206ba5081e6f", func := "gnomon/gnomonlaw.RulesLast", spec := "rulesLast", unfollowed := true, recurses := true, apart := false }
def RulesLastSaid : Prop := rulesLastRow.holds Try.pinned (OpenSpec.ofChange rulesLastSpec)

/-- ITS FALSE NEIGHBOUR: 'it returns false'. Refute it at one input. -/
def rulesLastWrong : ChangeSpec := { name := "rulesLast", fn := fun _ => fun
  | [d1, d2, d3] => { results := [.lit (.bool false)], args := [d1, d2, d3] }
  | _ => none }
def RulesLastWrongFalsely : Prop := rulesLastRow.holds Try.pinned (OpenSpec.ofChange rulesLastWrong)

/-- 'gnomonlaw.RulesTrue': WHATEVER THE INPUT: true; the input reads as it did. -/
def rulesTrueSpec : ChangeSpec := { name := "rulesTrue", fn := fun _ => fun
  | [d1, d2, d3, d4, d5] => { results := [.lit (.bool true)], args := [d1, d2, d3, d4, d5] }
  | _ => none }
def rulesTrueRow : OpenClaim := { program := "ytlmphmfadikdpaa", sum := "3fd38ce3e1d4f927a6b8d1782816b4260540f0cddca3b1316386206ba5081e6f", func := "gnomon/gnomonlaw.RulesTrue", spec := "rulesTrue", unfollowed := true, recurses := true, apart := false }
def RulesTrueSaid : Prop := rulesTrueRow.holds Try.pinned (OpenSpec.ofChange rulesTrueSpec)

/-- ITS FALSE NEIGHBOUR: 'it returns false'. Refute it at one input. -/
def rulesTrueWrong : ChangeSpec := { name := "rulesTrue", fn := fun _ => fun
  | [d1, d2, d3, d4, d5] => { results := [.lit (.bool false)], args := [d1, d2, d3, d4, d5] }
  | _ => none }
def RulesTrueWrongFalsely : Prop := rulesTrueRow.holds Try.pinned (OpenSpec.ofChange rulesTrueWrong)

/-- 'gnomonlaw.RulesLater': WHATEVER THE INPUT: true; the input reads as it did. -/
def rulesLaterSpec : ChangeSpec := { name := "rulesLater", fn := fun _ => fun
  | [d1, d2, d3, d4] => { results := [.lit (.bool true)], args := [d1, d2, d3, d4] }
  | _ => none }
def rulesLaterRow : OpenClaim := { program := "ytlmphmfadikdpaa", sum := "3fd38ce3e1d4f927a6b8d1782816b4260540f0cddca3b1316386206ba5081e6f", func := "gnomon/gnomonlaw.RulesLater", spec := "rulesLater", unfollowed := true, recurses := true, apart := false }
def RulesLaterSaid : Prop := rulesLaterRow.holds Try.pinned (OpenSpec.ofChange rulesLaterSpec)

/-- ITS FALSE NEIGHBOUR: 'it returns false'. Refute it at one input. -/
def rulesLaterWrong : ChangeSpec := { name := "rulesLater", fn := fun _ => fun
  | [d1, d2, d3, d4] => { results := [.lit (.bool false)], args := [d1, d2, d3, d4] }
  | _ => none }
def RulesLaterWrongFalsely : Prop := rulesLaterRow.holds Try.pinned (OpenSpec.ofChange rulesLaterWrong)

/- THE SECOND FORM. 'bulk': how many values and letters a reading holds, each counted each time it is reached (what is shared counts as often as it is met; a slice's spare places count too). A statement '..UptoSaid' is the law's where the arguments, and the package variables that the reading takes, are together of bulk at most 1048576: NARROWER than '..Said'. Prove '..Said' where nothing that the law and all that it calls make is longer than what came in: it says more and counts as full. Else prove '..UptoSaid'. A law counts once. -/
mutual
def uptoBulk {H : Type} : DataW H → Nat
  | .lit (.string bytes) => bytes.length + 1
  | .lit _ => 1
  | .nil => 1
  | .ptr d => uptoBulk d + 1
  | .slice elems spare => uptoBulkAll elems + uptoBulkAll spare + 1
  | .agg parts => uptoBulkAll parts + 1
  | .iface _ d => uptoBulk d + 1
  | .map entries => uptoBulkEntries entries + 1
  | .held _ => 1
def uptoBulkAll {H : Type} : List (DataW H) → Nat
  | [] => 0
  | d :: r => uptoBulk d + uptoBulkAll r
def uptoBulkEntries {H : Type} : List (Lit × DataW H) → Nat
  | [] => 0
  | x :: r => uptoBulkEntry x + uptoBulkEntries r
def uptoBulkEntry {H : Type} : Lit × DataW H → Nat
  | (.string bytes, d) => bytes.length + uptoBulk d + 1
  | (_, d) => uptoBulk d + 1
 end
def uptoSmall : (H : Type) → List (DataW H) → Bool := fun _ ds => decide (uptoBulkAll ds ≤ 1048576)
def OpenSpec.upto (s : _root_.Go.ChangeSpec) : _root_.Go.OpenSpec := { _root_.Go.OpenSpec.ofChange s with cond := some uptoSmall }

/-- 'gnomonlaw.DaysTells', WHERE WHAT IT READS IS OF BULK AT MOST 1048576: true; the input reads as it did. -/
def daysTellsUptoRow : OpenClaim := { program := "ytlmphmfadikdpaa", sum := "3fd38ce3e1d4f927a6b8d1782816b4260540f0cddca3b1316386206ba5081e6f", func := "gnomon/gnomonlaw.DaysTells", spec := "daysTells", apart := false, narrowed := true }
def DaysTellsUptoSaid : Prop := daysTellsUptoRow.holds Try.pinned (OpenSpec.upto daysTellsSpec)

/-- 'gnomonlaw.DaysBack', WHERE WHAT IT READS IS OF BULK AT MOST 1048576: true; the input reads as it did. -/
def daysBackUptoRow : OpenClaim := { program := "ytlmphmfadikdpaa", sum := "3fd38ce3e1d4f927a6b8d1782816b4260540f0cddca3b1316386206ba5081e6f", func := "gnomon/gnomonlaw.DaysBack", spec := "daysBack", apart := false, narrowed := true }
def DaysBackUptoSaid : Prop := daysBackUptoRow.holds Try.pinned (OpenSpec.upto daysBackSpec)

/-- 'gnomonlaw.DaysYear', WHERE WHAT IT READS IS OF BULK AT MOST 1048576: true; the input reads as it did. -/
def daysYearUptoRow : OpenClaim := { program := "ytlmphmfadikdpaa", sum := "3fd38ce3e1d4f927a6b8d1782816b4260540f0cddca3b1316386206ba5081e6f", func := "gnomon/gnomonlaw.DaysYear", spec := "daysYear", apart := false, narrowed := true }
def DaysYearUptoSaid : Prop := daysYearUptoRow.holds Try.pinned (OpenSpec.upto daysYearSpec)

/-- 'gnomonlaw.PickTells', WHERE WHAT IT READS IS OF BULK AT MOST 1048576: true; the input reads as it did. -/
def pickTellsUptoRow : OpenClaim := { program := "ytlmphmfadikdpaa", sum := "3fd38ce3e1d4f927a6b8d1782816b4260540f0cddca3b1316386206ba5081e6f", func := "gnomon/gnomonlaw.PickTells", spec := "pickTells", unfollowed := true, recurses := true, apart := false, narrowed := true }
def PickTellsUptoSaid : Prop := pickTellsUptoRow.holds Try.pinned (OpenSpec.upto pickTellsSpec)

/-- 'gnomonlaw.PickAgain', WHERE WHAT IT READS IS OF BULK AT MOST 1048576: true; the input reads as it did. -/
def pickAgainUptoRow : OpenClaim := { program := "ytlmphmfadikdpaa", sum := "3fd38ce3e1d4f927a6b8d1782816b4260540f0cddca3b1316386206ba5081e6f", func := "gnomon/gnomonlaw.PickAgain", spec := "pickAgain", unfollowed := true, recurses := true, apart := false, narrowed := true }
def PickAgainUptoSaid : Prop := pickAgainUptoRow.holds Try.pinned (OpenSpec.upto pickAgainSpec)

/-- 'gnomonlaw.PickTrue', WHERE WHAT IT READS IS OF BULK AT MOST 1048576: true; the input reads as it did. -/
def pickTrueUptoRow : OpenClaim := { program := "ytlmphmfadikdpaa", sum := "3fd38ce3e1d4f927a6b8d1782816b4260540f0cddca3b1316386206ba5081e6f", func := "gnomon/gnomonlaw.PickTrue", spec := "pickTrue", unfollowed := true, recurses := true, apart := false, narrowed := true }
def PickTrueUptoSaid : Prop := pickTrueUptoRow.holds Try.pinned (OpenSpec.upto pickTrueSpec)

/-- 'gnomonlaw.BooksTells', WHERE WHAT IT READS IS OF BULK AT MOST 1048576: true; the input reads as it did. -/
def booksTellsUptoRow : OpenClaim := { program := "ytlmphmfadikdpaa", sum := "3fd38ce3e1d4f927a6b8d1782816b4260540f0cddca3b1316386206ba5081e6f", func := "gnomon/gnomonlaw.BooksTells", spec := "booksTells", unfollowed := true, recurses := true, apart := false, narrowed := true }
def BooksTellsUptoSaid : Prop := booksTellsUptoRow.holds Try.pinned (OpenSpec.upto booksTellsSpec)

/-- 'gnomonlaw.BooksTrue', WHERE WHAT IT READS IS OF BULK AT MOST 1048576: true; the input reads as it did. -/
def booksTrueUptoRow : OpenClaim := { program := "ytlmphmfadikdpaa", sum := "3fd38ce3e1d4f927a6b8d1782816b4260540f0cddca3b1316386206ba5081e6f", func := "gnomon/gnomonlaw.BooksTrue", spec := "booksTrue", unfollowed := true, recurses := true, apart := false, narrowed := true }
def BooksTrueUptoSaid : Prop := booksTrueUptoRow.holds Try.pinned (OpenSpec.upto booksTrueSpec)

/-- 'gnomonlaw.RulesTells', WHERE WHAT IT READS IS OF BULK AT MOST 1048576: true; the input reads as it did. -/
def rulesTellsUptoRow : OpenClaim := { program := "ytlmphmfadikdpaa", sum := "3fd38ce3e1d4f927a6b8d1782816b4260540f0cddca3b1316386206ba5081e6f", func := "gnomon/gnomonlaw.RulesTells", spec := "rulesTells", unfollowed := true, recurses := true, apart := false, narrowed := true }
def RulesTellsUptoSaid : Prop := rulesTellsUptoRow.holds Try.pinned (OpenSpec.upto rulesTellsSpec)

/-- 'gnomonlaw.RulesLast', WHERE WHAT IT READS IS OF BULK AT MOST 1048576: true; the input reads as it did. -/
def rulesLastUptoRow : OpenClaim := { program := "ytlmphmfadikdpaa", sum := "3fd38ce3e1d4f927a6b8d1782816b4260540f0cddca3b1316386206ba5081e6f", func := "gnomon/gnomonlaw.RulesLast", spec := "rulesLast", unfollowed := true, recurses := true, apart := false, narrowed := true }
def RulesLastUptoSaid : Prop := rulesLastUptoRow.holds Try.pinned (OpenSpec.upto rulesLastSpec)

/-- 'gnomonlaw.RulesTrue', WHERE WHAT IT READS IS OF BULK AT MOST 1048576: true; the input reads as it did. -/
def rulesTrueUptoRow : OpenClaim := { program := "ytlmphmfadikdpaa", sum := "3fd38ce3e1d4f927a6b8d1782816b4260540f0cddca3b1316386206ba5081e6f", func := "gnomon/gnomonlaw.RulesTrue", spec := "rulesTrue", unfollowed := true, recurses := true, apart := false, narrowed := true }
def RulesTrueUptoSaid : Prop := rulesTrueUptoRow.holds Try.pinned (OpenSpec.upto rulesTrueSpec)

/-- 'gnomonlaw.RulesLater', WHERE WHAT IT READS IS OF BULK AT MOST 1048576: true; the input reads as it did. -/
def rulesLaterUptoRow : OpenClaim := { program := "ytlmphmfadikdpaa", sum := "3fd38ce3e1d4f927a6b8d1782816b4260540f0cddca3b1316386206ba5081e6f", func := "gnomon/gnomonlaw.RulesLater", spec := "rulesLater", unfollowed := true, recurses := true, apart := false, narrowed := true }
def RulesLaterUptoSaid : Prop := rulesLaterUptoRow.holds Try.pinned (OpenSpec.upto rulesLaterSpec)

end Rows
end Go.Proofs.Ytlmphmfadikdpaa
