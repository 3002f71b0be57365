/- An argument of type Data, and one of type Link, opened, where they are small. -/
import Derived.Test.YthhjgndaiimgjaaGreatDoorMUSrcB1
import Derived.Test.YthhjgndaiimgjaaGreatDoorMUSrcB9
set_option linter.unusedSimpArgs false
set_option linter.unusedVariables false
/-! An argument of type Data, and one of type Link, opened, where they are small. -/
section
set_option linter.unusedVariables false
set_option linter.unusedSimpArgs false
set_option maxRecDepth 100000
namespace Go.Proofs.YthhjgndaiimgjaaGreatDoor
open Go.ChangeShapes Go.WideShapes Go.ChangeAt Go.RowKit Gno
theorem cellsEra : Tryz.prog.cellsOf 59 = 5 := by kernel_rfl
theorem cellsZone : Tryz.prog.cellsOf 57 = 2 := by kernel_rfl
theorem cellsSet : Tryz.prog.cellsOf 48 = 2 := by kernel_rfl
theorem cellsLink : Tryz.prog.cellsOf 61 = 2 := by kernel_rfl
theorem cellsData : Tryz.prog.cellsOf 26 = 3 := by kernel_rfl
theorem cellsEras : Tryz.prog.cellsOf 55 = 1 := by kernel_rfl
theorem cellsRules : Tryz.prog.cellsOf 46 = 1 := by kernel_rfl
theorem cellsSets : Tryz.prog.cellsOf 22 = 1 := by kernel_rfl
theorem cellsZones : Tryz.prog.cellsOf 23 = 1 := by kernel_rfl
theorem cellsLinks : Tryz.prog.cellsOf 24 = 1 := by kernel_rfl
section
variable {H : Type} {enc : TypeId × Value → H} {w : World} {base : Nat} {spare : Nat → Bool} {held : Bool}
theorem part_small {xs : List (DataW H × List MemPlace)} (h : Small (.agg (xs.map (·.1)))) {i : Nat} (hi : i < xs.length) : Small xs[i].1 :=
  h.part (List.mem_map.2 ⟨_, List.getElem_mem hi, rfl⟩)
theorem trod_Link {fuel : Nat} {cs : List Value} {x : DataW H × List MemPlace} (ht : DataW.trod enc Tryz.prog w base spare held fuel 61 cs = some x) :
    ∃ a : Lk, cs = [.string a.name, .string a.to] ∧ a.name.size ≤ maxLen ∧ a.to.size ≤ maxLen := by
  obtain ⟨xs, n, _, _, hl, hlen, hf⟩ := DataW.trod_struct Tryz.underlying61 ht
  match cs, hl.trans cellsLink with
  | [c0, c1], _ =>
    have h0 := hf 0 _ rfl
    have h1 := hf 1 _ rfl
    simp [cellsString] at h0 h1
    rw [List.getElem?_eq_getElem (by simp at hlen; omega)] at h0 h1
    obtain ⟨k, e0, _, hs⟩ := DataW.trod_string Tryz.underlying9 h0
    obtain ⟨t, e1, _, hs1⟩ := DataW.trod_string Tryz.underlying9 h1
    simp at e0 e1
    exact ⟨⟨k, t⟩, by rw [e0, e1], hs, hs1⟩
theorem trod_Era {fuel : Nat} {cs : List Value} {x : DataW H × List MemPlace} (ht : DataW.trod enc Tryz.prog w base spare held fuel 59 cs = some x) (hx : Small x.1) :
    ∃ a : Er, cs = [.int .i64 a.std, .int .i64 a.set, .int .i64 a.save, .string a.fmt, .int .i64 a.til] ∧ a.fmt.size ≤ fmtMax := by
  obtain ⟨xs, n, _, rfl, hl, hlen, hf⟩ := DataW.trod_struct Tryz.underlying59 ht
  match cs, hl.trans cellsEra with
  | [c0, c1, c2, c3, c4], _ =>
    have hlen' : xs.length = 5 := by simpa using hlen
    have h0 := hf 0 _ rfl
    have h1 := hf 1 _ rfl
    have h2 := hf 2 _ rfl
    have h3 := hf 3 _ rfl
    have h4 := hf 4 _ rfl
    simp [cellsString, cellsInt] at h0 h1 h2 h3 h4
    rw [List.getElem?_eq_getElem (by omega)] at h0 h1 h2 h3 h4
    obtain ⟨std, e0, _⟩ := DataW.trod_int Tryz.underlying3 h0
    obtain ⟨set, e1, _⟩ := DataW.trod_int Tryz.underlying3 h1
    obtain ⟨save, e2, _⟩ := DataW.trod_int Tryz.underlying3 h2
    obtain ⟨fmt, e3, e3', hs⟩ := DataW.trod_string Tryz.underlying9 h3
    obtain ⟨til, e4, _⟩ := DataW.trod_int Tryz.underlying3 h4
    have hsm := part_small hx (i := 3) (by omega)
    rw [e3'] at hsm
    have := hsm.str
    simp at e0 e1 e2 e3 e4
    exact ⟨⟨std, set, save, fmt, til⟩, by rw [e0, e1, e2, e3, e4], (show fmt.size ≤ fmtMax by unfold fmtMax; omega)⟩
theorem trod_Zone {fuel : Nat} {cs : List Value} {x : DataW H × List MemPlace} (ht : DataW.trod enc Tryz.prog w base spare held fuel 57 cs = some x) (hx : Small x.1) :
    ∃ a : Zn, cs = [.string a.name, .slice a.A a.n a.cap] ∧ a.name.size ≤ maxLen ∧ ErasAt w w.heap.size a.A a.n a.es := by
  obtain ⟨xs, n, _, rfl, hl, hlen, hf⟩ := DataW.trod_struct Tryz.underlying57 ht
  match cs, hl.trans cellsZone with
  | [c0, c1], _ =>
    have hlen' : xs.length = 2 := by simpa using hlen
    have h0 := hf 0 _ rfl
    have h1 := hf 1 _ rfl
    simp [cellsString, cellsEras] at h0 h1
    rw [List.getElem?_eq_getElem (by omega)] at h0 h1
    obtain ⟨k, e0, _, hs⟩ := DataW.trod_string Tryz.underlying9 h0
    obtain ⟨A, m, cap, es, e1, _, _, hes, _⟩ := open_slice_sm (α := Er) (sz := 5) Tryz.underlying55 cellsEra (by omega) (fun w B b o x => ErAt w b o x ∧ x.fmt.size ≤ fmtMax) (fun fuel cs x ht hx => by
      obtain ⟨a, rfl, hf⟩ := trod_Era ht hx
      exact ⟨a, rfl, fun b o hc => ⟨⟨hc 0 (by omega), hc 1 (by omega), hc 2 (by omega), hc 3 (by omega), hc 4 (by omega)⟩, hf⟩⟩) h1 (part_small hx (i := 1) (by omega))
    simp at e0 e1
    exact ⟨⟨k, A, m, cap, es⟩, by rw [e0, e1], hs, hes⟩
theorem trod_Set {fuel : Nat} {cs : List Value} {x : DataW H × List MemPlace} (ht : DataW.trod enc Tryz.prog w base spare held fuel 48 cs = some x) (hx : Small x.1) :
    ∃ a : St, cs = [.string a.name, .slice a.A a.n a.cap] ∧ a.name.size ≤ maxLen ∧ RulesAt w w.heap.size a.A a.n a.rs := by
  obtain ⟨xs, n, _, rfl, hl, hlen, hf⟩ := DataW.trod_struct Tryz.underlying48 ht
  match cs, hl.trans cellsSet with
  | [c0, c1], _ =>
    have hlen' : xs.length = 2 := by simpa using hlen
    have h0 := hf 0 _ rfl
    have h1 := hf 1 _ rfl
    simp [cellsString, cellsRules] at h0 h1
    rw [List.getElem?_eq_getElem (by omega)] at h0 h1
    obtain ⟨k, e0, _, hs⟩ := DataW.trod_string Tryz.underlying9 h0
    obtain ⟨A, m, cap, rs, e1, _, _, hrs⟩ := open_slice_gen (α := Rl) (sz := 9) Tryz.underlying46 cellsRule (by omega) (fun w B b o r => RuleAt w b o r ∧ r.le.size ≤ maxLen) (fun fuel cs x ht => by
      obtain ⟨r, rfl, hle⟩ := trod_Rule ht
      exact ⟨r, rfl, fun b o hc => ⟨⟨hc 0 (by omega), hc 1 (by omega), hc 2 (by omega), hc 3 (by omega), hc 4 (by omega), hc 5 (by omega), hc 6 (by omega), hc 7 (by omega), hc 8 (by omega)⟩, hle⟩⟩) h1
    simp at e0 e1
    exact ⟨⟨k, A, m, cap, rs⟩, by rw [e0, e1], hs, hrs⟩
theorem openDataF {b0 : Nat} {r : Reach} {v : Value} {dt : DataW H} {p : List MemPlace}
    (hv : Value.okWide Tryz.prog w r b0 26 v) (h : DataW.Trod enc Tryz.prog w base spare held 26 v dt p) (hx : Small dt) :
    ∃ d : Dt, v = d.val ∧ DataAt w w.heap.size d ∧ d.ln ≤ 1048576 ∧ (d.lA = none → d.ln = 0 ∧ d.lc = 0) := by
  obtain ⟨cs, rfl, _⟩ := okWide_struct Tryz.underlying26 hv
  obtain ⟨fuel, hf0⟩ := h
  obtain ⟨xs, n, _, hxs, hl, hlen, hf⟩ := DataW.trod_struct Tryz.underlying26 hf0
  clear hf0
  have hdt : dt = .agg (xs.map (·.1)) := congrArg (·.1) hxs
  subst hdt
  have hlen' : xs.length = 3 := by simpa using hlen
  have hcl : cs.toList.length = 3 := by simpa [Value.cells] using hl.trans cellsData
  match cs, hcl with
  | ⟨[c0, c1, c2]⟩, _ =>
    have h0 := hf 0 _ rfl
    have h1 := hf 1 _ rfl
    have h2 := hf 2 _ rfl
    simp [cellsSets, cellsZones, cellsLinks, Value.cells] at h0 h1 h2
    rw [List.getElem?_eq_getElem (by omega)] at h0 h1 h2
    obtain ⟨A0, n0, cap0, ss, e0, _, _, hss, _⟩ := open_slice_sm (α := St) (sz := 2) Tryz.underlying22 cellsSet (by omega) (fun w B b o s => StAt w b o s ∧ s.name.size ≤ maxLen ∧ RulesAt w B s.A s.n s.rs) (fun fuel cs x ht hx => by
      obtain ⟨a, rfl, hs, hr⟩ := trod_Set ht hx
      exact ⟨a, rfl, fun b o hc => ⟨⟨hc 0 (by omega), hc 1 (by omega)⟩, hs, hr⟩⟩) h0 (part_small hx (i := 0) (by omega))
    obtain ⟨A1, n1, cap1, zs, e1, _, _, hzs, _⟩ := open_slice_sm (α := Zn) (sz := 2) Tryz.underlying23 cellsZone (by omega) (fun w B b o z => ZnAt w b o z ∧ z.name.size ≤ maxLen ∧ ErasAt w B z.A z.n z.es) (fun fuel cs x ht hx => by
      obtain ⟨a, rfl, hs, hr⟩ := trod_Zone ht hx
      exact ⟨a, rfl, fun b o hc => ⟨⟨hc 0 (by omega), hc 1 (by omega)⟩, hs, hr⟩⟩) h1 (part_small hx (i := 1) (by omega))
    obtain ⟨A2, n2, cap2, ls, e2, _, _, hls, hn2, hN2⟩ := open_slice_sm (α := Lk) (sz := 2) Tryz.underlying24 cellsLink (by omega) (fun w B b o l => LkAt w b o l ∧ l.name.size ≤ maxLen ∧ l.to.size ≤ maxLen) (fun fuel cs x ht hx => by
      obtain ⟨a, rfl, hs, hr⟩ := trod_Link ht
      exact ⟨a, rfl, fun b o hc => ⟨⟨hc 0 (by omega), hc 1 (by omega)⟩, hs, hr⟩⟩) h2 (part_small hx (i := 2) (by omega))
    simp at e0 e1 e2
    exact ⟨{ sA := A0, sn := n0, sc := cap0, ss := ss, zA := A1, zn := n1, zc := cap1, zs := zs, lA := A2, ln := n2, lc := cap2, ls := ls }, by rw [e0, e1, e2]; rfl, ⟨hss, hzs, hls, (show n2 ≤ fmtMax by unfold fmtMax; omega)⟩, hn2, hN2⟩
theorem openData {b0 : Nat} {r : Reach} {v : Value} {dt : DataW H} {p : List MemPlace}
    (hv : Value.okWide Tryz.prog w r b0 26 v) (h : DataW.Trod enc Tryz.prog w base spare held 26 v dt p) (hx : Small dt) :
    ∃ d : Dt, v = d.val ∧ DataAt w w.heap.size d := by
  obtain ⟨d, h1, h2, _⟩ := openDataF hv h hx
  exact ⟨d, h1, h2⟩
theorem openLink {b0 : Nat} {r : Reach} {v : Value} {dt : DataW H} {p : List MemPlace}
    (hv : Value.okWide Tryz.prog w r b0 61 v) (h : DataW.Trod enc Tryz.prog w base spare held 61 v dt p) :
    ∃ a : Lk, v = .agg #[.string a.name, .string a.to] ∧ a.name.size ≤ maxLen ∧ a.to.size ≤ maxLen := by
  obtain ⟨cs, rfl, _⟩ := okWide_struct Tryz.underlying61 hv
  obtain ⟨fuel, hf⟩ := h
  obtain ⟨a, hc, h1, h2⟩ := trod_Link hf
  refine ⟨a, ?_, h1, h2⟩
  have : cs.toList = [.string a.name, .string a.to] := by simpa [Value.cells] using hc
  rw [← Array.toArray_toList (xs := cs), this]
end
end Go.Proofs.YthhjgndaiimgjaaGreatDoor
end
