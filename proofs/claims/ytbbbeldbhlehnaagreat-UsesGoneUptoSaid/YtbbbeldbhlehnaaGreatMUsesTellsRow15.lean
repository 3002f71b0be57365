/- Parts of a proof, laid together. -/
import Derived.Maps.OwnOps
import Derived.Maps.OwnSet
import Derived.Maps.Views
import Derived.Test.YtbbbeldbhlehnaaGreatMUsesTellsRow12
set_option linter.unusedSimpArgs false
set_option linter.unusedVariables false
/-! A map that counts texts. -/
section
set_option linter.unusedVariables false
set_option linter.unusedSimpArgs false
namespace Gno
open Go Go.Maps
def cntN (s : ByteArray) (l : List ByteArray) : Nat := (l.filter fun x => same s x).length
/-- the map tells how often each text stands in l. -/
def Cnt (D : DataW Unit) (l : List ByteArray) : Prop := ∀ s : ByteArray, D.atKey (.string s.data.toList) (.lit (.int .i64 0)) = .lit (.int .i64 (cntN s l))
theorem cntN_le (s : ByteArray) (l : List ByteArray) : cntN s l ≤ l.length := List.length_filter_le _ _
theorem Cnt.start : Cnt (.map []) [] := fun s => rfl
theorem cntN_snoc (s v : ByteArray) (l : List ByteArray) : cntN s (l ++ [v]) = cntN s l + if same s v = true then 1 else 0 := by
  unfold cntN
  rw [List.filter_append, List.length_append]
  by_cases h : same s v = true <;> simp [h]
theorem Cnt.put {D : DataW Unit} {l : List ByteArray} (h : Cnt D l) (hm : IsMap D) (v : ByteArray) : Cnt (D.put (.string v.data.toList) (.lit (.int .i64 ((cntN v l : Nat) + 1 : Int)))) (l ++ [v]) := by
  intro s
  rw [cntN_snoc]
  by_cases e : same s v = true
  · rw [if_pos e]
    rw [same_iff] at e
    subst e
    rw [atKey_put_same hm (show Go.WideAt.IsKeyLit (.string s.data.toList) from trivial)]
    rfl
  · have hne : (Lit.string s.data.toList) ≠ .string v.data.toList := fun h2 => e ((same_iff _ _).2 (ByteArray.ext (Array.toList_inj.1 (by injection h2))))
    rw [if_neg e, atKey_put_other hne, h s, Nat.add_zero]
theorem cntN_zero {s : ByteArray} {l : List ByteArray} : cntN s l = 0 ↔ (l.any fun x => same s x) = false := by
  unfold cntN
  rw [List.length_eq_zero_iff, List.filter_eq_nil_iff, List.any_eq_false]
theorem among_cnt {l : List ByteArray} {v : ByteArray} {i : Nat} : amongTo l v i = decide (0 < cntN v (l.take i)) := by
  unfold amongTo
  have := cntN_zero (s := v) (l := l.take i)
  cases h : (List.take i l).any fun x => same v x
  · have := this.2 h; simp [this]
  · have h2 : cntN v (l.take i) ≠ 0 := fun e => by rw [this.1 e] at h; cases h
    simp; omega
end Gno
namespace Go
open Go.RowKit
theorem World.ownsMap.below {H : Type} {w w' : World} {P : Program} {k : TypeId} {R : Value → Option (DataW H × List MemPlace)} {b n : Nat} {D : DataW H} {B : Nat} (h : w.ownsMap P k R b n D) (hb : Below B w w') (hB : b < B) : w'.ownsMap P k R b n D := by
  obtain ⟨es, clock, h0, F, hs, hD⟩ := h
  exact ⟨es, clock, (hb.block b hB).trans h0, F, hs, hD⟩
end Go
namespace Go.Proofs.YtbbbeldbhlehnaaGreat
open Go.RowKit Gno Go.Maps
theorem lawStr : Keyed Tryz.prog 9 := string_keyed Tryz.underlying9
theorem zeroInt (w : World) : (zeroValue 3).run Tryz.prog w = .ok (.int .i64 0) w := by kernel_rfl
theorem cnt_at {D : DataW Unit} {l : List ByteArray} {v : ByteArray} {m : Nat} {c : Int} (h : Cnt D l) (hm : cntN v l = m) (hat : D.atKey (.string v.data.toList) (.lit (.int .i64 0)) = .lit (.int .i64 c)) : c = (m : Int) := by
  have := (h v).symm.trans hat
  rw [hm] at this
  injection this with h1
  injection h1 with _ h2
  exact h2.symm
end Go.Proofs.YtbbbeldbhlehnaaGreat
end
