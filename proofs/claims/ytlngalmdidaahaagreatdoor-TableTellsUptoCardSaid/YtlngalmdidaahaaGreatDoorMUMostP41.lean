/- Parts of a proof, laid together. -/
import Derived.Sort.Grow
import Derived.Test.YtlngalmdidaahaaGreatDoorShelf
import Derived.Test.YtlngalmdidaahaaGreatDoorMUMostP40
import Derived.Test.YtlngalmdidaahaaGreatDoorMUMostP23
set_option linter.unusedSimpArgs false
set_option linter.unusedVariables false
/-! Turns in memory; a row of ints of the call's own, sorted and compacted. -/
section
set_option linter.unusedVariables false
set_option linter.unusedSimpArgs false
namespace Gno
open Go Go.RowKit Go.Proofs.YtlngalmdidaahaaGreatDoor
def TnAt (w : World) (b o : Nat) (y : Tn) : Prop :=
  w.cell? ⟨b, o, none⟩ = some (.int .i64 y.a) ∧ w.cell? ⟨b, o + 1, none⟩ = some (.int .i64 y.tt) ∧ w.cell? ⟨b, o + 2, none⟩ = some (.int .i64 y.sv) ∧ w.cell? ⟨b, o + 3, none⟩ = some (.string y.ab)
def TurnsAt : World → Nat → Option Addr → Nat → List Tn → Prop := SlAt 4 (fun w B b o y => TnAt w b o y ∧ y.ab.size ≤ maxLen)
theorem TnAt.below {w w' : World} {B b o : Nat} {y : Tn} (h : TnAt w b o y) (hb : Below B w w') (hB : b < B) : TnAt w' b o y :=
  ⟨(hb.cell hB).trans h.1, (hb.cell hB).trans h.2.1, (hb.cell hB).trans h.2.2.1, (hb.cell hB).trans h.2.2.2⟩
theorem keeps_tn : Keeps (fun w B b o y => TnAt w b o y ∧ y.ab.size ≤ maxLen) := fun _ _ _ _ _ _ _ hb hB hbB h => ⟨h.1.below hb (by omega), h.2⟩
theorem turns_get {w : World} {B : Nat} {A : Option Addr} {n : Nat} {l : List Tn} (h : TurnsAt w B A n l) {i : Nat} (hi : i < n) :
    ∃ b o q, A = some ⟨b, o, none⟩ ∧ b < B ∧ l[i]? = some q ∧ q.ab.size ≤ maxLen ∧ ∀ W, Below B w W → TnAt W b (o + i * 4) q := by
  obtain ⟨b, o, q, h1, h2, h3, h4⟩ := SlAt.get keeps_tn h hi
  exact ⟨b, o, q, h1, h2, h3, (h4 w (Below.refl _ _)).2, fun W hW => (h4 W hW).1⟩
theorem TurnsAt.next {w W : World} {A : Option Addr} {n : Nat} {l : List Tn} (h : TurnsAt w w.heap.size A n l) (hb : Below w.heap.size w W) : TurnsAt W W.heap.size A n l :=
  SlAt.below keeps_tn (SlAt.below keeps_tn h hb (Nat.le_refl _)) (Below.refl W.heap.size _) hb.size
/-- turns as cells. -/
def tnCells (y : Tn) : List Value := [.int .i64 y.a, .int .i64 y.tt, .int .i64 y.sv, .string y.ab]
def tns (l : List Tn) : List Value := l.flatMap tnCells
theorem tns_app (l : List Tn) (y : Tn) : tns (l ++ [y]) = tns l ++ tnCells y := by unfold tns; simp
theorem tns_len (l : List Tn) : (tns l).length = l.length * 4 := by
  induction l with
  | nil => rfl
  | cons a t ih => simp only [tns, List.flatMap_cons, List.length_append, List.length_cons] at *; rw [ih]; simp [tnCells]; omega
theorem tns_get : ∀ (l : List Tn) (i : Nat) (x : Tn), l[i]? = some x → (tns l)[i * 4]? = some (.int .i64 x.a) ∧ (tns l)[i * 4 + 1]? = some (.int .i64 x.tt) ∧ (tns l)[i * 4 + 2]? = some (.int .i64 x.sv) ∧ (tns l)[i * 4 + 3]? = some (.string x.ab)
  | a :: t, 0, x, h => by
    obtain rfl : a = x := by simpa using h
    exact ⟨rfl, rfl, rfl, rfl⟩
  | a :: t, i + 1, x, h => by
    have ih := tns_get t i x (by simpa using h)
    have e : tns (a :: t) = .int .i64 a.a :: .int .i64 a.tt :: .int .i64 a.sv :: .string a.ab :: tns t := rfl
    rw [e, show (i + 1) * 4 = i * 4 + 1 + 1 + 1 + 1 by omega]
    simp only [List.getElem?_cons_succ]
    exact ih
theorem tns_own {w : World} {B : Nat} {g cap n : Nat} {l : List Tn} (h : w.ownsRow B 56 4 (.slice (some ⟨g, 0, none⟩) n cap) n (tns l)) (hn : n ≤ maxLen) :
    ∀ i x, l[i]? = some x → TnAt w g (i * 4) x := by
  intro i x hx
  obtain ⟨g0, g1, g2, g3⟩ := tns_get l i x hx
  have hadd : ∀ j, (⟨g, 0, none⟩ : Addr).add j = ⟨g, 0 + j, none⟩ := fun j => by unfold Addr.add; split <;> simp_all
  have c0 := h.cells (g := g) rfl _ _ g0
  have c1 := h.cells (g := g) rfl _ _ g1
  have c2 := h.cells (g := g) rfl _ _ g2
  have c3 := h.cells (g := g) rfl _ _ g3
  rw [hadd, Nat.zero_add] at c0 c1 c2 c3
  exact ⟨c0, c1, c2, c3⟩
/-- an own row of turns is a slice of turns. -/
theorem turns_own {w : World} {B : Nat} {v : Value} {n : Nat} {l : List Tn} (h : w.ownsRow B 56 4 v n (tns l)) (hn : n ≤ maxLen) (hs : ∀ x ∈ l, x.ab.size ≤ maxLen) :
    ∃ A cap, v = .slice A n cap ∧ TurnsAt w w.heap.size A n l := by
  have hl : l.length = n := by have := h.1; rw [tns_len] at this; omega
  rcases h.2 with ⟨rfl, rfl⟩ | ⟨g, cap, cur, rfl, _⟩
  · exact ⟨none, 0, rfl, hl, hn, fun h0 => by omega⟩
  · refine ⟨_, cap, rfl, hl, hn, fun _ => ⟨g, 0, rfl, (h.lt g rfl).2, fun i x hx => ⟨?_, hs x (List.mem_of_getElem? hx)⟩⟩⟩
    have := tns_own h hn i x hx
    rw [Nat.zero_add]; exact this
end Gno
namespace Go.Proofs.YtlngalmdidaahaaGreatDoor
open Go.RowKit Gno Go.Sort
theorem infoTurn : (Tryz.prog.info? 56).map (fun i => (i.zero, i.size, i.bytes)) = some (some (.agg #[.int .i64 0, .int .i64 0, .int .i64 0, .string ⟨#[]⟩]), 4, 40) := by kernel_rfl
theorem infoInt : (Tryz.prog.info? 3).map (fun i => (i.zero, i.size, i.bytes)) = some (some (.int .i64 0), 1, 8) := by kernel_rfl
def ints (l : List Int) : List Value := l.map (Value.int .i64)
/-- the world behind a sort of an own row. -/
theorem row_grown (w : World) (g m : Nat) (ys : Array Int) (os : Array Obj) : w.grownBy (grow (putRow (Value.int .i64) (Go.Sort.ahead w m) g 0 ys) os) (some g) where
  os := rfl
  tape := rfl
  output := rfl
  size := by simp [grow, putRow, mapBlock, Go.Sort.ahead]
  block := fun k hk hne => by
    have hne : g ≠ k := fun e => hne (by rw [e])
    simp only [grow, putRow, mapBlock, Go.Sort.ahead]
    rw [Array.getElem?_append_left (by simpa using hk), Array.getElem?_modify, if_neg hne]
theorem own_holds {w : World} {B g n cap : Nat} {zs : List Int} (h : w.ownsRow B 3 1 (.slice (some ⟨g, 0, none⟩) n cap) n (ints zs)) : Holds (Value.int .i64) w g 0 zs.toArray := by
  intro j hj
  have hj' : j < zs.length := by simpa using hj
  have hc := h.cells (g := g) rfl j (.int .i64 zs[j]) (by unfold ints; simp [hj'])
  have hadd : (⟨g, 0, none⟩ : Addr).add j = ⟨g, j, none⟩ := by unfold Addr.add; split <;> simp_all
  rw [hadd] at hc
  rw [Nat.zero_add, getElem!_pos zs.toArray j hj]
  refine ⟨by simpa using hc, ?_⟩
  rcases h.2 with ⟨e, _⟩ | ⟨g', cap', cur, e, _, hg, _⟩
  · cases e
  · injection e with e1 _ _
    injection e1 with e1
    injection e1 with e1 _ _
    subst e1
    exact frozen_of hg
/-- a row of ints, turned in place (and what a call made beside). -/
theorem own_put {w : World} {B g n cap : Nat} {zs ys : List Int} (h : w.ownsRow B 3 1 (.slice (some ⟨g, 0, none⟩) n cap) n (ints zs)) (hy : ys.length = zs.length) (m : Nat) (os : Array Obj) :
    (grow (putRow (Value.int .i64) (Go.Sort.ahead w m) g 0 ys.toArray) os).ownsRow B 3 1 (.slice (some ⟨g, 0, none⟩) n cap) n (ints ys) := by
  have hz : zs.length = n := by have := h.1; unfold ints at this; simpa using this
  refine ⟨by unfold ints; simp; omega, .inr ?_⟩
  rcases h.2 with ⟨e, _⟩ | ⟨g', cap', cur, e, hb, hg, hnc, hcm, hcs, _⟩
  · cases e
  · injection e with e1 _ e3
    injection e1 with e1
    injection e1 with e1 _ _
    subst e1
    subst e3
    refine ⟨g, cap, putCells (Value.int .i64) 0 ys.toArray cur, rfl, hb, ?_, hnc, hcm, by unfold putCells; simpa using hcs, ?_⟩
    · have hgl := (Array.getElem?_eq_some_iff.1 hg).1
      simp only [grow, putRow, mapBlock, Go.Sort.ahead]
      rw [Array.getElem?_append_left (by simpa using hgl), Array.getElem?_modify, if_pos rfl, hg]
      rfl
    · apply List.ext_getElem?
      intro j
      unfold ints putCells
      rw [List.getElem?_take, Nat.mul_one]
      by_cases hj : j < n
      · have hjc : j < cur.size := by omega
        have hjy : j < ys.length := by omega
        rw [if_pos hj]
        simp only [Array.getElem?_toList, Array.getElem?_mapIdx, List.getElem?_map]
        rw [Array.getElem?_eq_getElem hjc, List.getElem?_eq_getElem hjy]
        simp [hjy]
      · rw [if_neg hj, List.getElem?_eq_none (by simp; omega)]
/-- its first ones. -/
theorem own_first {w : World} {B g n cap : Nat} {xs : List Value} {m : Nat} (h : w.ownsRow B 3 1 (.slice (some ⟨g, 0, none⟩) n cap) n xs) (hm : m ≤ n) : w.ownsRow B 3 1 (.slice (some ⟨g, 0, none⟩) m cap) m (xs.take m) := by
  refine ⟨by rw [List.length_take, h.1]; omega, ?_⟩
  rcases h.2 with ⟨e, _⟩ | ⟨g', cap', cur, e, hb, hg, hnc, hcm, hcs, ht⟩
  · cases e
  · injection e with e1 _ e3
    injection e1 with e1
    injection e1 with e1 _ _
    subst e1
    subst e3
    refine .inr ⟨g, cap, cur, rfl, hb, hg, by omega, hcm, hcs, ?_⟩
    rw [← ht, List.take_take]
    congr 1
    omega
end Go.Proofs.YtlngalmdidaahaaGreatDoor
end
/-! slices.Sort and slices.Compact of a row of ints of the call's own. -/
section
set_option linter.unusedVariables false
set_option linter.unusedSimpArgs false
namespace Go.Proofs.YtlngalmdidaahaaGreatDoor
open Go.RowKit Gno Go.Sort
theorem sort_own {w : World} {B g n cap : Nat} {zs : List Int} (h : w.ownsRow B 3 1 (.slice (some ⟨g, 0, none⟩) n cap) n (ints zs)) (hn : n < 4611686018427387904) :
    Calls Tryz.prog 34 #[.slice (some ⟨g, 0, none⟩) n cap] w fun e w' => e = .returned (.tuple #[]) ∧ w'.ownsRow B 3 1 (.slice (some ⟨g, 0, none⟩) n cap) n (ints (sortI zs)) ∧ w.grownBy w' (some g) := by
  have hz : zs.length = n := by have := h.1; unfold ints at this; simpa using this
  have := Go.Proofs.Tryz.slices_Sort_int g 0 cap zs w (own_holds h) (h.lt g rfl).2 (by omega)
  rw [hz] at this
  refine this.mono ?_
  rintro e w' ⟨rfl, m, os, rfl⟩
  exact ⟨rfl, own_put h (sortI_len zs) m os, row_grown w g m _ os⟩
theorem compact_own {w : World} {B g n cap : Nat} {zs : List Int} (h : w.ownsRow B 3 1 (.slice (some ⟨g, 0, none⟩) n cap) n (ints zs)) (hn : n ≤ 9223372036854775807) :
    Calls Tryz.prog 35 #[.slice (some ⟨g, 0, none⟩) n cap] w fun e w' => e = .returned (.slice (some ⟨g, 0, none⟩) (Go.Lib.compact zs).length cap) ∧ w'.ownsRow B 3 1 (.slice (some ⟨g, 0, none⟩) (Go.Lib.compact zs).length cap) (Go.Lib.compact zs).length (ints (Go.Lib.compact zs)) ∧ w.grownBy w' (some g) := by
  have hz : zs.length = n := by have := h.1; unfold ints at this; simpa using this
  have hcap : n ≤ cap := by
    rcases h.2 with ⟨e, _⟩ | ⟨g', cap', cur, e, _, _, h1, _⟩
    · cases e
    · injection e with _ _ e3
      omega
  have := Go.Proofs.Tryz.slices_Compact_int g 0 cap zs w (own_holds h) (by omega) (by omega)
  rw [hz] at this
  refine this.mono ?_
  rintro e w' ⟨rfl, m, rfl⟩
  have hl := compact_len zs
  have h1 := own_put h (ys := Go.Lib.compact zs ++ List.replicate (n - (Go.Lib.compact zs).length) 0) (by simp; omega) m #[]
  have h2 := own_first h1 (m := (Go.Lib.compact zs).length) (by omega)
  have e0 : (ints (Go.Lib.compact zs ++ List.replicate (n - (Go.Lib.compact zs).length) 0)).take (Go.Lib.compact zs).length = ints (Go.Lib.compact zs) := by
    unfold ints
    rw [← List.map_take, List.take_left]
  rw [e0, grow_empty] at h2
  have h3 := row_grown w g m (Go.Lib.compact zs ++ List.replicate (n - (Go.Lib.compact zs).length) 0).toArray #[]
  rw [grow_empty] at h3
  exact ⟨rfl, h2, h3⟩
end Go.Proofs.YtlngalmdidaahaaGreatDoor
end
