/- Parts of a proof, laid together. -/
import Derived.Deep.Slices
import Derived.Test.YtbbbeldbhlehnaaGreatMUsesTellsRow3
import Derived.Test.YtbbbeldbhlehnaaGreatMUsesTellsRow13
set_option linter.unusedSimpArgs false
set_option linter.unusedVariables false
/-! Arguments of type Rule and []Rule, opened. -/
section
set_option linter.unusedVariables false
set_option linter.unusedSimpArgs false
set_option maxRecDepth 100000
namespace Go.Proofs.YtbbbeldbhlehnaaGreat
open Go.ChangeShapes Go.WideShapes Go.ChangeAt Go.RowKit Gno

theorem cellsInt : Tryz.prog.cellsOf 3 = 1 := by kernel_rfl
theorem cellsString : Tryz.prog.cellsOf 9 = 1 := by kernel_rfl
theorem cellsOn' : Tryz.prog.cellsOf 97 = 3 := by kernel_rfl
theorem cellsRule : Tryz.prog.cellsOf 99 = 9 := by kernel_rfl
theorem list9 {α : Type} {l : List α} (h : l.length = 9) : ∃ a b c d e f g i j, l = [a, b, c, d, e, f, g, i, j] := by
  match l, h with
  | [a, b, c, d, e, f, g, i, j], _ => exact ⟨a, b, c, d, e, f, g, i, j, rfl⟩
def _root_.Gno.Rl.cells (r : Rl) : List Value := [.int .i64 r.fy, .int .i64 r.ty, .int .i64 r.mo, .int .i64 r.k, .int .i64 r.wk, .int .i64 r.d, .int .i64 r.a, .int .i64 r.sv, .string r.le]

section
variable {H : Type} {enc : TypeId × Value → H} {w : World} {base : Nat} {spare : Nat → Bool} {held : Bool}
theorem trod_On {fuel : Nat} {c0 c1 c2 : Value} {x : DataW H × List MemPlace} (h : DataW.trod enc Tryz.prog w base spare held fuel 97 [c0, c1, c2] = some x) :
    ∃ k wk d : Int, c0 = .int .i64 k ∧ c1 = .int .i64 wk ∧ c2 = .int .i64 d := by
  obtain ⟨xs, n, _, _, _, hlen, hf⟩ := DataW.trod_struct Tryz.underlying97 h
  have h0 := hf 0 _ rfl
  have h1 := hf 1 _ rfl
  have h2 := hf 2 _ rfl
  simp [cellsInt] at h0 h1 h2
  rw [List.getElem?_eq_getElem (by simp at hlen; omega)] at h0 h1 h2
  obtain ⟨k, e0, _⟩ := DataW.trod_int Tryz.underlying3 h0
  obtain ⟨wk, e1, _⟩ := DataW.trod_int Tryz.underlying3 h1
  obtain ⟨d, e2, _⟩ := DataW.trod_int Tryz.underlying3 h2
  simp at e0 e1 e2
  exact ⟨k, wk, d, e0, e1, e2⟩
theorem trod_Rule {fuel : Nat} {cs : List Value} {x : DataW H × List MemPlace} (h : DataW.trod enc Tryz.prog w base spare held fuel 99 cs = some x) :
    ∃ r : Rl, cs = r.cells ∧ r.le.size ≤ maxLen := by
  obtain ⟨xs, n, _, _, hl, hlen, hf⟩ := DataW.trod_struct Tryz.underlying99 h
  obtain ⟨c0, c1, c2, c3, c4, c5, c6, c7, c8, rfl⟩ := list9 (hl.trans cellsRule)
  have h0 := hf 0 _ rfl
  have h1 := hf 1 _ rfl
  have h2 := hf 2 _ rfl
  have h3 := hf 3 _ rfl
  have h4 := hf 4 _ rfl
  have h5 := hf 5 _ rfl
  have h6 := hf 6 _ rfl
  simp [cellsInt, cellsString, cellsOn'] at h0 h1 h2 h3 h4 h5 h6
  rw [List.getElem?_eq_getElem (by simp at hlen; omega)] at h0 h1 h2 h3 h4 h5 h6
  obtain ⟨fy, e0, _⟩ := DataW.trod_int Tryz.underlying3 h0
  obtain ⟨ty, e1, _⟩ := DataW.trod_int Tryz.underlying3 h1
  obtain ⟨mo, e2, _⟩ := DataW.trod_int Tryz.underlying3 h2
  obtain ⟨k, wk, d, e3, e4, e5⟩ := trod_On h3
  obtain ⟨a, e6, _⟩ := DataW.trod_int Tryz.underlying3 h4
  obtain ⟨sv, e7, _⟩ := DataW.trod_int Tryz.underlying3 h5
  obtain ⟨le, e8, _, hs⟩ := DataW.trod_string Tryz.underlying9 h6
  simp at e0 e1 e2 e6 e7 e8
  exact ⟨⟨fy, ty, mo, k, wk, d, a, sv, le⟩, by rw [e0, e1, e2, e3, e4, e5, e6, e7, e8]; rfl, hs⟩
theorem openRule {b0 : Nat} {r : Reach} {v : Value} {d : DataW H} {p : List MemPlace}
    (hv : Value.okWide Tryz.prog w r b0 99 v) (h : DataW.Trod enc Tryz.prog w base spare held 99 v d p) :
    ∃ fy ty mo k wk d a sv : Int, ∃ le : ByteArray, v = .agg #[.int .i64 fy, .int .i64 ty, .int .i64 mo, .int .i64 k, .int .i64 wk, .int .i64 d, .int .i64 a, .int .i64 sv, .string le] ∧ le.size ≤ maxLen := by
  obtain ⟨cs, rfl, _⟩ := okWide_struct Tryz.underlying99 hv
  obtain ⟨fuel, hf⟩ := h
  obtain ⟨r, e, hs⟩ := trod_Rule (cs := cs.toList) hf
  obtain ⟨l⟩ := cs
  simp only at e
  subst e
  exact ⟨r.fy, r.ty, r.mo, r.k, r.wk, r.d, r.a, r.sv, r.le, rfl, hs⟩
theorem lt_of_cell {w : World} {b o : Nat} {v : Value} (h : w.cell? ⟨b, o, none⟩ = some v) : b < w.heap.size := by
  rcases Nat.lt_or_ge b w.heap.size with q | q
  · exact q
  · simp [World.cell?, Array.getElem?_eq_none q] at h
theorem openRules {b0 : Nat} {r : Reach} {v : Value} {d : DataW H} {p : List MemPlace}
    (hv : Value.okWide Tryz.prog w r b0 78 v) (h : DataW.Trod enc Tryz.prog w base spare held 78 v d p) :
    ∃ (A : Option Addr) (n cap : Nat) (rs : List Rl), v = .slice A n cap ∧ RulesAt w w.heap.size A n rs := by
  obtain ⟨a0, len, cap, rfl⟩ := okWide_slice Tryz.underlying78 hv
  obtain ⟨fuel, hf⟩ := h
  rcases Go.Deep.open_slice Tryz.underlying78 hf with ⟨hc, _⟩ | ⟨a, len', cap', m, n, D, Pl, hc, hb, hl, hm, hmm, _, hi⟩
  · simp [Value.cells] at hc
    obtain ⟨rfl, rfl, rfl⟩ := hc
    exact ⟨none, 0, 0, [], rfl, rfl, by decide, fun h => absurd h (by omega)⟩
  · simp [Value.cells] at hc
    obtain ⟨rfl, rfl, rfl⟩ := hc
    have hlm : len ≤ m := by rw [hmm]; split <;> omega
    have hx : ∀ i, ∃ r : Rl, i < len → (r.le.size ≤ maxLen ∧ ∀ j, j < 9 → w.cell? ((a.add (i * 9)).add j) = r.cells[j]?) := fun i => by
      by_cases hlt : i < len
      · obtain ⟨cs', hc, ht⟩ := hi i (by omega)
        rw [cellsRule] at hc
        obtain ⟨_, _, hcell⟩ := World.cells?_some hc
        obtain ⟨r, rfl, hs⟩ := trod_Rule ht
        exact ⟨r, fun _ => ⟨hs, hcell⟩⟩
      · exact ⟨⟨0, 0, 0, 0, 0, 0, 0, 0, ByteArray.empty⟩, fun h => absurd h hlt⟩
    have hR : ∃ R : Nat → Rl, ∀ i, i < len → ((R i).le.size ≤ maxLen ∧ ∀ j, j < 9 → w.cell? ((a.add (i * 9)).add j) = (R i).cells[j]?) := ⟨fun i => (hx i).choose, fun i => (hx i).choose_spec⟩
    obtain ⟨R, hR⟩ := hR
    refine ⟨some a, len, cap, (List.range len).map R, rfl, by simp, by omega, fun hp => ?_⟩
    obtain ⟨b, off, spot⟩ := a
    have hspot : spot = none := by
      have := (hR 0 hp).2 0 (by omega)
      simpa [Addr.add] using World.cell?_spot (this.trans (by simp [Rl.cells]; rfl))
    subst hspot
    have hplain : ∀ i j, ((Addr.mk b off none).add (i * 9)).add j = ⟨b, off + i * 9 + j, none⟩ := fun i j => by rw [Go.WideShapes.add_plain, Go.WideShapes.add_plain]
    have h0 := (hR 0 hp).2 0 (by omega)
    rw [hplain] at h0
    refine ⟨b, off, rfl, lt_of_cell (h0.trans (by simp [Rl.cells]; rfl)), fun i r hr => ?_⟩
    have hil : i < len := by
      rcases Nat.lt_or_ge i len with q | q
      · exact q
      · rw [List.getElem?_eq_none (by simpa using q)] at hr; cases hr
    have hre : R i = r := by
      rw [List.getElem?_eq_getElem (by simpa using hil)] at hr
      simpa using hr
    obtain ⟨hs, hcell⟩ := hR i hil
    rw [hre] at hs hcell
    simp only [hplain] at hcell
    exact ⟨⟨hcell 0 (by omega), hcell 1 (by omega), hcell 2 (by omega), hcell 3 (by omega), hcell 4 (by omega), hcell 5 (by omega), hcell 6 (by omega), hcell 7 (by omega), hcell 8 (by omega)⟩, hs⟩
end
end Go.Proofs.YtbbbeldbhlehnaaGreat
end
