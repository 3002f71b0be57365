/- Parts of a proof, laid together. -/
import Derived.StillTailTactics
import Derived.Test.YtlngalmdidaahaaDoorMOffBareRow27
import Derived.Test.YtlngalmdidaahaaDoorMOffBareRow11
set_option linter.unusedSimpArgs false
set_option linter.unusedVariables false
/-! gnomonref.CheckData: the list of all names. -/
section
set_option linter.unusedVariables false
namespace Go.Proofs.YtlngalmdidaahaaDoor
open Go.RowKit Gno
/-- the slice of texts that another holds, appended to an own one. -/
theorem wpList_appS {P : Program} {ops : Array Oper} {rest : List Oper} {o : Oper} {a : Act} {Q : Exit → Act → World → Prop} {w : World} (hgd : o.guard = none) (s x : Operand) (t : TypeId)
    (ho : o.op = .call { callee := .builtin .append, args := #[s, x], argTypes := #[t, t] })
    (base : Nat) (e : TypeId) (z : Value) (bytes : Nat) (ht : P.underlying t = some (.slice e)) (hinf : (P.info? e).map (fun i => (i.zero, i.size, i.bytes)) = some (some z, 1, bytes))
    (hzs : z.cells.size = 1)
    (v : Value) (n : Nat) (xs : List Value) (hs : a.eval s = v) (hown : w.ownsRow base e 1 v n xs)
    (A : Option Addr) (m c : Nat) (l : List ByteArray) (hx : a.eval x = .slice A m c) (B2 : Nat) (hS : StrsAt w B2 A m l) (hN : A = none → m = 0 ∧ c = 0)
    (h63 : n + m ≤ maxLen) (hbytes : (n + m) * bytes ≤ 140737488355328) (hbase : base ≤ w.heap.size)
    (h : ∀ v' w', w'.ownsRow base e 1 v' (n + m) (xs ++ strs l) → w.grownBy w' v.ownBlock → wpList P ops Q rest (a.put o.dst v') w') : wpList P ops Q (o :: rest) a w := by
  obtain ⟨i, hi, hz, hsize, hby⟩ := info_parts hinf
  cases A with
  | none =>
    obtain ⟨rfl, rfl⟩ := hN rfl
    have hl : l = [] := List.length_eq_zero_iff.1 hS.1
    subst hl
    refine wpList_append_own_none hgd s x t ho base e i 1 ht hi v n xs hs hown hx ?_
    have := h v w (by simpa [strs] using hown) (World.grownBy.refl w _)
    exact this
  | some ad =>
    refine wpList_append_own w hgd s x t ho base e i z 1 bytes ht hi hz hsize hby hzs (by decide) v n xs hs hown ad m c (strs l) hx (by simp [strs, hS.1]) (strs_cells hS) (by intro u hu; simp only [strs, List.mem_map] at hu; obtain ⟨q, _, rfl⟩ := hu; rfl) h63 hbytes hbase ?_
    exact fun v' w' h1 h2 _ => h v' w' h1 h2
def SlB (W : World) (B : Nat) (n : Nat) (l : List ByteArray) (v : Value) : Prop := ∃ A c, v = .slice A n c ∧ StrsAt W B A n l ∧ (A = none → n = 0 ∧ c = 0)
theorem SlB.below {W W' : World} {B B' : Nat} {n : Nat} {l : List ByteArray} {v : Value} (h : SlB W B n l v) (hb : Below B' W W') (hB : B ≤ B') : SlB W' B n l v := by
  obtain ⟨A, c, h1, h2, h3⟩ := h
  exact ⟨A, c, h1, h2.below hb hB, h3⟩
theorem SlB.more {W : World} {B B' : Nat} {n : Nat} {l : List ByteArray} {v : Value} (h : SlB W B n l v) (hB : B ≤ B') : SlB W B' n l v := by
  obtain ⟨A, c, h1, h2, h3⟩ := h
  exact ⟨A, c, h1, h2.more hB, h3⟩
theorem own_SlB {w : World} {B : Nat} {e : TypeId} {v : Value} {n : Nat} {l : List ByteArray} (h : w.ownsRow B e 1 v n (strs l)) (hn : n ≤ maxLen) : SlB w w.heap.size n l v := ownsRow_strs2 h hn
end Go.Proofs.YtlngalmdidaahaaDoor
end
/-! gnomonref.CheckData: the names, alike ones, the rules. -/
section
set_option linter.unusedVariables false
namespace Go.Proofs.YtlngalmdidaahaaDoor
open Go.RowKit Gno
end Go.Proofs.YtlngalmdidaahaaDoor
end
/-! gnomonref.CheckData: the eras and their formats. -/
section
set_option linter.unusedVariables false
namespace Gno
open Go
theorem ahead_is (es : List Er) (i : Nat) : aheadG 0 es i = aheadOf es i := by cases i <;> rfl
def badZ (d : Dt) (z : Zn) : Bool := (aheads 0 z.es).any (badE d) || badEnd z
theorem badZ_all (d : Dt) : anyI (fun _ => badZ d) d.zs = ((erasL d.zs).any (badE d) || anyI (fun _ => badEnd) d.zs) := by
  rw [anyI_any, anyI_any]
  unfold erasL
  rw [List.any_flatMap]
  induction d.zs with
  | nil => rfl
  | cons z t ih =>
    simp only [List.any_cons]
    rw [ih]
    unfold badZ
    cases (aheads 0 z.es).any (badE d) <;> cases badEnd z <;> simp
def badFZ (z : Zn) : Bool := (aheads 0 z.es).any badF
theorem badFZ_all (d : Dt) : anyI (fun _ => badFZ) d.zs = (erasL d.zs).any badF := by
  rw [anyI_any]
  unfold erasL
  rw [List.any_flatMap]
  rfl
theorem dE6_bad {d : Dt} (h : anyI (fun _ => badZ d) d.zs = true) : dE6 d = 3 := by
  rw [badZ_all] at h
  unfold dE6
  by_cases h1 : (erasL d.zs).any (badE d) = true
  · rw [if_pos h1]
  · rw [if_neg h1]
    unfold dE7
    rw [if_pos (by simpa [h1] using h)]
theorem dE6_good {d : Dt} (h : anyI (fun _ => badZ d) d.zs = false) : dE6 d = dE8 d := by
  rw [badZ_all, Bool.or_eq_false_iff] at h
  unfold dE6
  rw [if_neg (by rw [h.1]; simp)]
  unfold dE7
  rw [if_neg (by rw [h.2]; simp)]
end Gno
namespace Go.Proofs.YtlngalmdidaahaaDoor
open Go.RowKit Gno
end Go.Proofs.YtlngalmdidaahaaDoor
end
