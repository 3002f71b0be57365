/- Parts of a proof, laid together. -/
import Derived.Lib.SplitLaws
import Derived.Lib.IndexLaws
import Derived.Lib.AtoiAllMem
import Derived.Test.YthhjgndaiimgjaaGreatDoorMUSrcB3
import Derived.Test.YthhjgndaiimgjaaGreatDoorMUSrcB13
import Derived.Test.YthhjgndaiimgjaaGreatDoorMUSrcB0
import Derived.Test.YthhjgndaiimgjaaGreatDoorMUSrcB2
set_option linter.unusedSimpArgs false
set_option linter.unusedVariables false
/-! The library's functions that the reader and the shower call: Itoa, Atoi, Split at a blank, TrimSuffix at a line's end, IndexByte. -/
section
set_option linter.unusedVariables false
set_option linter.unusedSimpArgs false
set_option maxRecDepth 100000
namespace Gno
open Go Go.RowKit Go.Proofs.YthhjgndaiimgjaaGreatDoor
/-- the package variables that the library reads, all below B. -/
structure SMet (w : World) (B : Nat) : Prop where
  mx : MaxAt w B
  es : 2 < B ∧ ∃ ev, w.cell? ⟨2, 0, none⟩ = some ev ∧ (ev = .nilIface ∨ ∃ te pe, ev = .iface te pe)
  er : 3 < B ∧ ∃ ev, w.cell? ⟨3, 0, none⟩ = some ev ∧ (ev = .nilIface ∨ ∃ te pe, ev = .iface te pe)
  tab : 1 < B ∧ Lib.TabIs Go.Proofs.Tryz.prog w "internal/strconv.uint64pow10" .u64 Lib.pow10Tab
theorem SMet.below {w w' : World} {B B' : Nat} (h : SMet w B) (hb : Below B w w') (hB : B ≤ B') : SMet w' B' := by
  obtain ⟨h1, ⟨h2, ev, h3, h4⟩, ⟨h5, ev', h6, h7⟩, h8, h9⟩ := h
  refine ⟨h1.below hb hB, ⟨by omega, ev, (hb.cell (p := ⟨2, 0, none⟩) h2).trans h3, h4⟩, ⟨by omega, ev', (hb.cell (p := ⟨3, 0, none⟩) h5).trans h6, h7⟩, by omega, ?_⟩
  have hg : Go.Proofs.Tryz.prog.globalNamed "internal/strconv.uint64pow10" = some 1 := by kernel_rfl
  have := hb.block _ h8
  unfold Lib.TabIs World.var? at h9 ⊢
  rw [hg] at h9 ⊢
  simp only [Option.bind_some] at h9 ⊢
  rw [this]
  exact h9
theorem SMet.next {w W : World} (h : SMet w w.heap.size) (hb : Below w.heap.size w W) : SMet W W.heap.size := (h.below hb (Nat.le_refl _)).below (Below.refl _ _) hb.size
/-! a split at one byte -/
theorem idx_none {c : UInt8} {l : Bt} (h : Lib.indexByte l c = -1) : c ∉ l := fun hm => by
  obtain ⟨k, hk⟩ := List.getElem?_of_mem hm
  exact Lib.indexByte_none h k hk
theorem idx_some {c : UInt8} {l : Bt} {i : Nat} (h : Lib.indexByte l c = i) : i < l.length ∧ l = l.take i ++ c :: l.drop (i + 1) ∧ c ∉ l.take i := by
  obtain ⟨h1, h2⟩ := Lib.indexByte_some h
  have hi := (List.getElem?_eq_some_iff.1 h1).1
  refine ⟨hi, ?_, fun hm => ?_⟩
  · conv => lhs; rw [← List.take_append_drop i l, List.drop_eq_getElem_cons hi]
    rw [(List.getElem?_eq_some_iff.1 h1).2]
  · obtain ⟨k, hk⟩ := List.getElem?_of_mem hm
    have hk2 : k < i := by have := (List.getElem?_eq_some_iff.1 hk).1; rw [List.length_take] at this; omega
    rw [List.getElem?_take_of_lt hk2] at hk
    exact h2 k hk2 hk
theorem idx_cases (l : Bt) (c : UInt8) : Lib.indexByte l c = -1 ∨ ∃ i : Nat, Lib.indexByte l c = i := by
  have := Lib.indexByte_ge l c
  by_cases h : Lib.indexByte l c = -1
  · exact .inl h
  · exact .inr ⟨(Lib.indexByte l c).toNat, by omega⟩
theorem splitK_is (c : UInt8) : ∀ (n : Nat) (l : Bt), l.length ≤ n → Lib.splitK [c] 0 (Lib.count l [c]) l = splitB c l := by
  intro n
  induction n with
  | zero =>
    intro l hl
    obtain rfl := List.eq_nil_of_length_eq_zero (Nat.le_zero.1 hl)
    rfl
  | succ n ih =>
    intro l hl
    rcases idx_cases l c with h | ⟨i, h⟩
    · rw [Lib.count_miss (by rw [Lib.index_one]; exact h)]
      show [l] = _
      rw [splitB_none (idx_none h)]
    · obtain ⟨hi, e, hno⟩ := idx_some h
      rw [Lib.count_hit (by simp) (i := i) (by rw [Lib.index_one]; exact h), Nat.add_comm]
      unfold Lib.splitK
      rw [Lib.index_one, h]
      rw [if_neg (by simp only [beq_iff_eq]; omega)]
      simp only [Int.toNat_natCast, Nat.add_zero, List.length_singleton]
      rw [ih _ (by rw [List.length_drop]; omega)]
      conv => rhs; rw [e]
      exact (splitB_app _ hno).symm
theorem split_lib (c : UInt8) (s : ByteArray) : Lib.splitB ⟨#[c]⟩ 0 (Lib.countB s ⟨#[c]⟩) s = (splitB c s.data.toList).map Bs := by
  have h := Lib.splitB_data ⟨#[c]⟩ 0 (Lib.countB s ⟨#[c]⟩) s
  have h2 : Lib.splitK [c] 0 (Lib.countB s ⟨#[c]⟩) s.data.toList = splitB c s.data.toList := splitK_is c _ _ (Nat.le_refl _)
  have h3 : (Lib.splitB ⟨#[c]⟩ 0 (Lib.countB s ⟨#[c]⟩) s).map (·.data.toList) = splitB c s.data.toList := h.trans h2
  rw [← h3, List.map_map]
  conv => lhs; rw [← List.map_id (Lib.splitB ⟨#[c]⟩ 0 (Lib.countB s ⟨#[c]⟩) s)]
  exact List.map_congr_left fun x _ => (Bs_list x).symm
theorem split_len (c : UInt8) (s : ByteArray) : Lib.countB s ⟨#[c]⟩ + 1 = (splitB c s.data.toList).length := by
  have : ∀ (n : Nat) (l : Bt), l.length ≤ n → Lib.count l [c] + 1 = (splitB c l).length := by
    intro n
    induction n with
    | zero =>
      intro l hl
      obtain rfl := List.eq_nil_of_length_eq_zero (Nat.le_zero.1 hl)
      rfl
    | succ n ih =>
      intro l hl
      rcases idx_cases l c with h | ⟨i, h⟩
      · rw [Lib.count_miss (by rw [Lib.index_one]; exact h), splitB_none (idx_none h)]
        rfl
      · obtain ⟨hi, e, hno⟩ := idx_some h
        rw [Lib.count_hit (by simp) (i := i) (by rw [Lib.index_one]; exact h)]
        conv => rhs; rw [e, splitB_app _ hno]
        rw [show ([c] : List UInt8).length = 1 from rfl]
        have := ih (l.drop (i + 1)) (by rw [List.length_drop]; omega)
        simp only [List.length_cons]
        omega
  exact this _ _ (Nat.le_refl _)
/-- a line with its end off. -/
theorem trim_end (l : Bt) : Lib.trimSuffix (l ++ [10]) [10] = l := by
  unfold Lib.trimSuffix Lib.hasSuffix
  rw [if_pos (by rw [List.isSuffixOf_iff_suffix]; exact ⟨l, rfl⟩)]
  simp
theorem trim_none {l : Bt} (h : (10 : UInt8) ∉ l) : Lib.trimSuffix l [10] = l := by
  unfold Lib.trimSuffix Lib.hasSuffix
  rw [if_neg]
  rw [List.isSuffixOf_iff_suffix]
  rintro ⟨t, rfl⟩
  exact h (by simp)
end Gno
namespace Go.Proofs.YthhjgndaiimgjaaGreatDoor
open Go.RowKit Gno
theorem below_grew (w : World) (k : Nat) (os : Array Obj) : Below w.heap.size w (Go.Sort.grow (w.drewN k) os) :=
  ⟨rfl, rfl, rfl, by simp [Go.Sort.grow], fun j hj => by simp [Go.Sort.grow, Array.getElem?_append, hj]⟩
theorem itoaP_any (n : Int) (h0 : -9223372036854775808 ≤ n) (h1 : n ≤ 9223372036854775807) (B : Nat) (w : World) (hm : SMet w B) :
    Calls Tryz.prog 54 #[.int .i64 n] w fun e w' => e = .returned (.string (Bs (Lib.itoa n))) ∧ Below w.heap.size w w' := by
  refine (Go.Proofs.Tryz.strconv_Itoa n h0 h1 w hm.tab.2).mono ?_
  rintro e w' ⟨rfl, k, os, rfl⟩
  exact ⟨rfl, below_grew w k os⟩
theorem atoiP_yes (s : ByteArray) (hs : s.size ≤ 281474976710656) (v : Int) (h : Lib.atoiAll s.data.toList = .ok v) (w : World) :
    Calls Tryz.prog 92 #[.string s] w fun e w' => e = .returned (.tuple #[.int .i64 v, .nilIface]) ∧ Below w.heap.size w w' := by
  refine (Go.Proofs.Tryz.strconv_Atoi_ok s (by omega) v h w).mono ?_
  rintro e w' ⟨rfl, rfl | ⟨t, rfl⟩⟩
  · exact ⟨rfl, Below.refl _ _⟩
  · exact ⟨rfl, Lib.bytesWorld_below _ _ _⟩
theorem atoiP_not (s : ByteArray) (hs : s.size ≤ 281474976710656) (h : ∀ v, Lib.atoiAll s.data.toList ≠ .ok v) (B : Nat) (w : World) (hm : SMet w B) :
    Calls Tryz.prog 92 #[.string s] w fun e w' => ∃ x T N, e = .returned (.tuple #[.int .i64 x, .iface T (.pointer (some ⟨N, 0, none⟩))]) ∧ Below w.heap.size w w' := by
  obtain ⟨_, ev, h3, h4⟩ := hm.es
  obtain ⟨_, ev', h6, h7⟩ := hm.er
  cases hh : Lib.atoiAll s.data.toList
  · exact absurd hh (h _)
  all_goals
    first
    | (refine (Any.strconv_Atoi_syntax Tryz.laysC172 s hs hh ev w h3 h4).mono ?_
       rintro e w' ⟨N, rfl, _, _, hb⟩
       exact ⟨_, _, N, rfl, hb⟩)
    | (refine (Any.strconv_Atoi_range Tryz.laysC172 s hs hh ev' w h6 h7).mono ?_
       rintro e w' ⟨N, rfl, _, _, hb⟩
       exact ⟨_, _, N, rfl, hb⟩)
theorem splitP_any (s : ByteArray) (hs : s.size ≤ 1000000) (B : Nat) (w : World) (hm : SMet w B) :
    Calls Tryz.prog 29 #[.string s, .string ⟨#[32]⟩] w fun e w' => e = .returned (.slice (some ⟨w.heap.size, 0, none⟩) (splitB 32 s.data.toList).length (splitB 32 s.data.toList).length) ∧
      w' = w.alloc (.cells ((splitB 32 s.data.toList).map fun l => Value.string (Bs l)).toArray 9) := by
  obtain ⟨_, m, hmx⟩ := hm.mx
  refine (Go.Proofs.Tryz.strings_Split s ⟨#[32]⟩ m w (by omega) hmx (Nat.le_refl 1)).mono ?_
  rintro e w' ⟨rfl, rfl⟩
  rw [split_len, split_lib, List.map_map]
  exact ⟨rfl, rfl⟩
theorem trimP_any (s : ByteArray) (hs : s.size ≤ 1000000) (w : World) :
    Calls Tryz.prog 30 #[.string s, .string ⟨#[10]⟩] w fun e w' => e = .returned (.string (Bs (Lib.trimSuffix s.data.toList [10]))) ∧ w = w' := by
  refine (Go.Proofs.Tryz.strings_TrimSuffix s ⟨#[10]⟩ w (by omega)).mono ?_
  rintro e w' ⟨rfl, rfl⟩
  exact ⟨rfl, rfl⟩
theorem idxP_any (s : ByteArray) (w : World) :
    Calls Tryz.prog 64 #[.string s, .int .u8 10] w fun e w' => e = .returned (.int .i64 (Lib.indexByte s.data.toList 10)) ∧ w = w' := by
  refine (Go.Proofs.Tryz.strings_IndexByte s 10 w).mono ?_
  rintro e w' ⟨rfl, rfl⟩
  exact ⟨rfl, rfl⟩
end Go.Proofs.YthhjgndaiimgjaaGreatDoor
end
