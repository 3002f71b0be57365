/- Parts of a proof, laid together. -/
import Derived.Test.YthhjgndaiimgjaaGreatDoorMUSrcB4
import Derived.Test.YthhjgndaiimgjaaGreatDoorMUSrcB0
set_option linter.unusedSimpArgs false
set_option linter.unusedVariables false
/-! Plain: data, their errors, and where a name leads. -/
section
set_option linter.unusedVariables false
set_option linter.unusedSimpArgs false
namespace Gno
open Go
structure Er where
  std : Int
  set : Int
  save : Int
  fmt : ByteArray
  til : Int
structure Zn where
  name : ByteArray
  A : Option Addr
  n : Nat
  cap : Nat
  es : List Er
structure St where
  name : ByteArray
  A : Option Addr
  n : Nat
  cap : Nat
  rs : List Rl
structure Lk where
  name : ByteArray
  to : ByteArray
structure Dt where
  sA : Option Addr
  sn : Nat
  sc : Nat
  ss : List St
  zA : Option Addr
  zn : Nat
  zc : Nat
  zs : List Zn
  lA : Option Addr
  ln : Nat
  lc : Nat
  ls : List Lk
def zNames (d : Dt) : List ByteArray := d.zs.map fun z => z.name
def sNames (d : Dt) : List ByteArray := d.ss.map fun z => z.name
def lNames (d : Dt) : List ByteArray := d.ls.map fun z => z.name
def lTos (d : Dt) : List ByteArray := d.ls.map fun z => z.to
def isZone (name : ByteArray) (z : Zn) : Bool := same z.name name
def isLink (name : ByteArray) (l : Lk) : Bool := same l.name name
def zoneN (d : Dt) (name : ByteArray) : Int := fst (isZone name) d.zs 0
def linkN (d : Dt) (name : ByteArray) : Int := fst (isLink name) d.ls 0
/-- where a name leads in at most so many steps; -1: nowhere, or round. -/
def leadT (d : Dt) : Nat → ByteArray → Int
  | 0, _ => -1
  | f + 1, name => if 0 ≤ zoneN d name then zoneN d name else match d.ls[(linkN d name).toNat]? with
    | some l => if linkN d name < 0 then -1 else leadT d f l.to
    | none => -1
def leadN (d : Dt) (name : ByteArray) : Int := leadT d (d.ls.length + 1) name

/-! the parts of Check -/
def manyRules (s : St) : Bool := decide (s.n < 1) || decide (4 < s.n)
def manyEras (z : Zn) : Bool := decide (z.n < 1) || decide (4 < z.n)
def badNm (s : ByteArray) : Bool := !nameOk s
def namesBad (d : Dt) : Bool := anyI (fun _ => badNm) (sNames d) || anyI (fun _ => badNm) (zNames d) || anyI (fun _ => badNm) (lNames d) || anyI (fun _ => badNm) (lTos d)
/-- the first rule's error that has one. -/
noncomputable def setsE : List St → Int
  | [] => 0
  | s :: t => if firstE s.rs ≠ 0 then firstE s.rs else setsE t
def eraOk (ns : Int) (x : Er) (ahead : Int) : Bool :=
  decide (-50400 ≤ x.std ∧ x.std ≤ 50400) && (decide (-1 ≤ x.set ∧ x.set < ns) && (decide (0 ≤ x.save ∧ x.save ≤ 7200) && (decide (x.set < 0 ∨ x.save = 0) && decide (ahead < x.til))))
/-- the Until of the era ahead of the i-th. -/
def aheadOf (es : List Er) (i : Nat) : Int := match i with
  | 0 => 0
  | j + 1 => match es[j]? with
    | some x => x.til
    | none => 0
def badEra (ns : Int) (es : List Er) (i : Nat) (x : Er) : Bool := !eraOk ns x (aheadOf es i)
def badEras (ns : Int) (z : Zn) : Bool := anyI (badEra ns z.es) z.es
def badEnd (z : Zn) : Bool := decide (aheadOf z.es z.es.length ≠ 1893456000)
end Gno
end
/-! Plain: what data hold. -/
section
set_option linter.unusedVariables false
set_option linter.unusedSimpArgs false
namespace Gno
open Go Go.RowKit Go.Proofs.YthhjgndaiimgjaaGreatDoor
def cnR (r : Rl) : List Int × Bt := ([r.fy, r.ty, r.mo, r.k, r.wk, r.d, r.a, r.sv], r.le.data.toList)
def cnE (x : Er) : List Int × Bt × Int := ([x.std, x.set, x.save], x.fmt.data.toList, x.til)
def cnS (s : St) : Bt × List (List Int × Bt) := (s.name.data.toList, s.rs.map cnR)
def cnZ (z : Zn) : Bt × List (List Int × Bt × Int) := (z.name.data.toList, z.es.map cnE)
def cnL (l : Lk) : Bt × Bt := (l.name.data.toList, l.to.data.toList)
def cnOf (d : Dt) : Cn := ⟨d.ss.map cnS, d.zs.map cnZ, d.ls.map cnL⟩
end Gno
end
