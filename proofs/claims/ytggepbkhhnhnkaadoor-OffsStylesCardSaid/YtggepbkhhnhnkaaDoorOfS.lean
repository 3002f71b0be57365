/- Offsets as text: the styles by their kinds. -/
import Derived.Test.YtggepbkhhnhnkaaDoorOfD
import Derived.Maps.OwnSet
import Derived.Carry
set_option linter.unusedVariables false
set_option linter.unusedSimpArgs false
namespace Gno
open Go Go.Maps
/-- a map's values, just as they stand. -/
def heldR (v : Value) : Option (DataW Value × List MemPlace) := some (.held v, [])
def styV (a z : ByteArray) (f : Nat) : Value := .agg #[.string a, .string z, .func (.func f) #[] #[]]
theorem heldR_mk (v : Value) : heldR v = some (.held v, []) := rfl
/-- 'm[k] = v' of a map's own text: as a store into it. -/
theorem wpList_insert_own {H : Type} {P : Program} (w : World) {ops : Array Oper} {rest : List Oper} {o : Oper} {a : Act} {Q : Exit → Act → World → Prop}
    (hg : o.guard = none) (m x v : Operand) (t : TypeId) (hop : o.op = Op.insert t m x v)
    (k e : TypeId) (K : Keyed P k) (ht : P.underlying t = some (.map k e)) (R : Value → Option (DataW H × List MemPlace)) (b n : Nat) (D : DataW H)
    (hm : a.eval m = .map (some b)) (hown : w.ownsMap P k R b n D) (hn : n < maxLen) (key val : Value) (kl : Lit) (hx : a.eval x = key) (hv : a.eval v = val) (hkey : keyOf P k key = some kl)
    (d : DataW H) (ps : List MemPlace) (hval : R val = some (d, ps))
    (hK : ∀ w', w'.ownsMap P k R b (n + 1) (D.put kl d) → w.grownBy w' (some b) → wpList P ops Q rest (a.put o.dst undef) w') :
    wpList P ops Q (o :: rest) a w := by
  refine wpList_plain hg fun K' hK' => ?_
  obtain ⟨w', hrun, r1, r2⟩ := hown.update K ht hn hkey hval
  unfold Oper.wp
  simp [execOp, hop, hm, hx, hv, hrun, Result.andThen]
  exact hK' _ _ (hK w' r1 r2)
end Gno
namespace Go.Proofs.YtggepbkhhnhnkaaDoor
open Go.RowKit Gno Go.Maps
def V1 : Value := styV ⟨#[]⟩ ⟨#[]⟩ 22
def V2 : Value := styV ⟨#[]⟩ ⟨#[90]⟩ 18
def V3 : Value := styV ⟨#[71, 77, 84]⟩ ⟨#[71, 77, 84]⟩ 20
def V4 : Value := styV ⟨#[71, 77, 84]⟩ ⟨#[71, 77, 84]⟩ 18
def stylesD : DataW Value := ((((DataW.map []).put (.int .i64 1) (.held V1)).put (.int .i64 2) (.held V2)).put (.int .i64 3) (.held V3)).put (.int .i64 4) (.held V4)
theorem below_own {w w1 w2 : World} (h : Below w.heap.size w w1) (hg : w1.grownBy w2 (some w.heap.size)) (hs : w.heap.size ≤ w1.heap.size) : Below w.heap.size w w2 := h.grown hg hs fun k hk => by injection hk with hk; omega
theorem keyed_int : Keyed Tryd.prog 3 := int_keyed Tryd.underlying3
set_option maxHeartbeats 4000000 in
theorem styles_any (w : World) : Calls Tryd.prog 11 #[] w fun e w' => e = .returned (.map (some w.heap.size)) ∧ w'.ownsMap Tryd.prog 3 heldR w.heap.size 4 stylesD ∧ Below w.heap.size w w' := by
  have h0 : (w.alloc (.map #[] 0)).ownsMap Tryd.prog 3 heldR w.heap.size 0 (.map []) := World.ownsMap_made w _ _ _
  have hb0 : Below w.heap.size w (w.alloc (.map #[] 0)) := (Below.refl _ w).alloc (Nat.le_refl _) _
  have hmm := @run_makeMap Tryd.prog
  go_enter Tryd.func11, Tryd.ntmps11
  go_wp2_with (refine wpList_insert_own _ rfl _ _ _ 35 rfl 3 33 keyed_int Tryd.underlying35 heldR w.heap.size _ _ rfl (by assumption) (by unfold maxLen; omega) _ _ _ rfl rfl (keyOf_int_mk Tryd.underlying3 (by decide)) _ [] (heldR_mk _) ?_; intro w1 hown1 hgrow1; have hbw := below_own (by assumption) hgrow1 (Below.size (by assumption)); clear hgrow1)
  go_ret
  exact ⟨rfl, by assumption, by assumption⟩
end Go.Proofs.YtggepbkhhnhnkaaDoor
