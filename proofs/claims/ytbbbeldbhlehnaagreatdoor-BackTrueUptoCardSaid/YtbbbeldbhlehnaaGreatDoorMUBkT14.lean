/- An argument of type Data, and one of type Link, opened, where they are small. -/
import Derived.Test.YtbbbeldbhlehnaaGreatDoorMUBkT2
import Derived.Test.YtbbbeldbhlehnaaGreatDoorMUBkT10
set_option linter.unusedSimpArgs false
set_option linter.unusedVariables false
section
set_option linter.unusedVariables false
set_option linter.unusedSimpArgs false
set_option maxRecDepth 100000
namespace Go.Proofs.YtbbbeldbhlehnaaGreatDoor
open Go.ChangeShapes Go.WideShapes Go.ChangeAt Go.RowKit Gno
theorem cellsEra : Tryz.prog.cellsOf 125 = 5 := by kernel_rfl
theorem cellsZone : Tryz.prog.cellsOf 54 = 2 := by kernel_rfl
theorem cellsSet : Tryz.prog.cellsOf 115 = 2 := by kernel_rfl
theorem cellsLink : Tryz.prog.cellsOf 127 = 2 := by kernel_rfl
theorem cellsData : Tryz.prog.cellsOf 26 = 3 := by kernel_rfl
theorem cellsEras : Tryz.prog.cellsOf 52 = 1 := by kernel_rfl
theorem cellsRules : Tryz.prog.cellsOf 113 = 1 := by kernel_rfl
theorem cellsSets : Tryz.prog.cellsOf 22 = 1 := by kernel_rfl
theorem cellsZones : Tryz.prog.cellsOf 23 = 1 := by kernel_rfl
theorem cellsLinks : Tryz.prog.cellsOf 24 = 1 := by kernel_rfl
section
variable {H : Type} {enc : TypeId × Value → H} {w : World} {base : Nat} {spare : Nat → Bool} {held : Bool}
theorem part_small {xs : List (DataW H × List MemPlace)} (h : Small (.agg (xs.map (·.1)))) {i : Nat} (hi : i < xs.length) : Small xs[i].1 :=
 h.part (List.mem_map.2 ⟨_, List.getElem_mem hi, rfl⟩)
theorem trod_Link {fuel : Nat} {cs : List Value} {x : DataW H × List MemPlace} (ht : DataW.trod enc Tryz.prog w base spare held fuel 127 cs = some x) :
 ∃ a : Lk, cs = [.string a.name, .string a.to] ∧ a.name.size ≤ maxLen ∧ a.to.size ≤ maxLen := by
 obtain ⟨xs, n, _, _, hl, hlen, hf⟩ := DataW.trod_struct Tryz.underlying127 ht
 match cs, hl.trans cellsLink with
 | [c0, c1], _ =>
   have h0 := hf 0 _ rfl
   have h1 := hf 1 _ rfl
   simp [cellsString] at h0 h1
   rw [List.getElem?_eq_getElem (by simp at hlen; omega)] at h0 h1
   obtain ⟨k, e0, _, hs⟩ := DataW.trod_string Tryz.underlying9 h0
   obtain ⟨t, e1, _, hs1⟩ := DataW.trod_string Tryz.underlying9 h1
   simp at e0 e1
   exact ⟨⟨k, t⟩, by rw [e0, e1], hs, hs1⟩
theorem trod_Era {fuel : Nat} {cs : List Value} {x : DataW H × List MemPlace} (ht : DataW.trod enc Tryz.prog w base spare held fuel 125 cs = some x) (hx : Small x.1) :
 ∃ a : Er, cs = [.int .i64 a.std, .int .i64 a.set, .int .i64 a.save, .string a.fmt, .int .i64 a.til] ∧ a.fmt.size ≤ fmtMax := by
 obtain ⟨xs, n, _, rfl, hl, hlen, hf⟩ := DataW.trod_struct Tryz.underlying125 ht
 match cs, hl.trans cellsEra with
 | [c0, c1, c2, c3, c4], _ =>
   have hlen' : xs.length = 5 := by simpa using hlen
   have h0 := hf 0 _ rfl
   have h1 := hf 1 _ rfl
   have h2 := hf 2 _ rfl
   have h3 := hf 3 _ rfl
   have h4 := hf 4 _ rfl
   simp [cellsString, cellsInt] at h0 h1 h2 h3 h4
   rw [List.getElem?_eq_getElem (by omega)] at h0 h1 h2 h3 h4
   obtain ⟨std, e0, _⟩ := DataW.trod_int Tryz.underlying3 h0
   obtain ⟨set, e1, _⟩ := DataW.trod_int Tryz.underlying3 h1
   obtain ⟨save, e2, _⟩ := DataW.trod_int Tryz.underlying3 h2
   obtain ⟨fmt, e3, e3', hs⟩ := DataW.trod_string Tryz.underlying9 h3
   obtain ⟨til, e4, _⟩ := DataW.trod_int Tryz.underlying3 h4
   have hsm := part_small hx (i := 3) (by omega)
   rw [e3'] at hsm
   have := hsm.str
   simp at e0 e1 e2 e3 e4
   exact ⟨⟨std, set, save, fmt, til⟩, by rw [e0, e1, e2, e3, e4], (show fmt.size ≤ fmtMax by unfold fmtMax; omega)⟩
theorem trod_Zone {fuel : Nat} {cs : List Value} {x : DataW H × List MemPlace} (ht : DataW.trod enc Tryz.prog w base spare held fuel 54 cs = some x) (hx : Small x.1) :
 ∃ a : Zn, cs = [.string a.name, .slice a.A a.n a.cap] ∧ a.name.size ≤ maxLen ∧ ErasAt w w.heap.size a.A a.n a.es := by
 obtain ⟨xs, n, _, rfl, hl, hlen, hf⟩ := DataW.trod_struct Tryz.underlying54 ht
 match cs, hl.trans cellsZone with
 | [c0, c1], _ =>
   have hlen' : xs.length = 2 := by simpa using hlen
   have h0 := hf 0 _ rfl
   have h1 := hf 1 _ rfl
   simp [cellsString, cellsEras] at h0 h1
   rw [List.getElem?_eq_getElem (by omega)] at h0 h1
   obtain ⟨k, e0, _, hs⟩ := DataW.trod_string Tryz.underlying9 h0
   obtain ⟨A, m, cap, es, e1, _, _, hes, _⟩ := open_slice_sm (α := Er) (sz := 5) Tryz.underlying52 cellsEra (by omega) (fun w B b o x => ErAt w b o x ∧ x.fmt.size ≤ fmtMax) (fun fuel cs x ht hx => by
    obtain ⟨a, rfl, hf⟩ := trod_Era ht hx
    exact ⟨a, rfl, fun b o hc => ⟨⟨hc 0 (by omega), hc 1 (by omega), hc 2 (by omega), hc 3 (by omega), hc 4 (by omega)⟩, hf⟩⟩) h1 (part_small hx (i := 1) (by omega))
   simp at e0 e1
   exact ⟨⟨k, A, m, cap, es⟩, by rw [e0, e1], hs, hes⟩
theorem trod_Set {fuel : Nat} {cs : List Value} {x : DataW H × List MemPlace} (ht : DataW.trod enc Tryz.prog w base spare held fuel 115 cs = some x) (hx : Small x.1) :
 ∃ a : St, cs = [.string a.name, .slice a.A a.n a.cap] ∧ a.name.size ≤ maxLen ∧ RulesAt w w.heap.size a.A a.n a.rs := by
 obtain ⟨xs, n, _, rfl, hl, hlen, hf⟩ := DataW.trod_struct Tryz.underlying115 ht
 match cs, hl.trans cellsSet with
 | [c0, c1], _ =>
   have hlen' : xs.length = 2 := by simpa using hlen
   have h0 := hf 0 _ rfl
   have h1 := hf 1 _ rfl
   simp [cellsString, cellsRules] at h0 h1
   rw [List.getElem?_eq_getElem (by omega)] at h0 h1
   obtain ⟨k, e0, _, hs⟩ := DataW.trod_string Tryz.underlying9 h0
   obtain ⟨A, m, cap, rs, e1, _, _, hrs⟩ := open_slice_gen (α := Rl) (sz := 9) Tryz.underlying113 cellsRule (by omega) (fun w B b o r => RuleAt w b o r ∧ r.le.size ≤ maxLen) (fun fuel cs x ht => by
    obtain ⟨r, rfl, hle⟩ := trod_Rule ht
    exact ⟨r, rfl, fun b o hc => ⟨⟨hc 0 (by omega), hc 1 (by omega), hc 2 (by omega), hc 3 (by omega), hc 4 (by omega), hc 5 (by omega), hc 6 (by omega), hc 7 (by omega), hc 8 (by omega)⟩, hle⟩⟩) h1
   simp at e0 e1
   exact ⟨⟨k, A, m, cap, rs⟩, by rw [e0, e1], hs, hrs⟩
end
end Go.Proofs.YtbbbeldbhlehnaaGreatDoor
end
