/- An argument of type World, opened, where it is small. -/
import Derived.Test.YtbbbeldbhlehnaaGreatDoorMUBkT39
import Derived.Test.YtbbbeldbhlehnaaGreatDoorMUBkT14
import Derived.Test.YtbbbeldbhlehnaaGreatDoorMUBkT34
import Derived.Test.YtbbbeldbhlehnaaGreatDoorMUBkT10
set_option linter.unusedSimpArgs false
set_option linter.unusedVariables false
section
set_option linter.unusedVariables false
set_option linter.unusedSimpArgs false
set_option maxRecDepth 100000
namespace Go.Proofs.YtbbbeldbhlehnaaGreatDoor
open Go.ChangeShapes Go.WideShapes Go.ChangeAt Go.RowKit Gno
theorem cellsWorld : Tryz.prog.cellsOf 30 = 5 := by kernel_rfl
theorem cellsUsesS : Tryz.prog.cellsOf 27 = 1 := by kernel_rfl
theorem cellsBooksS : Tryz.prog.cellsOf 28 = 1 := by kernel_rfl
section
variable {H : Type} {enc : TypeId × Value → H} {w : World} {base : Nat} {spare : Nat → Bool} {held : Bool}
theorem trod_Data {fuel : Nat} {cs : List Value} {x : DataW H × List MemPlace} (ht : DataW.trod enc Tryz.prog w base spare held fuel 26 cs = some x) (hx : Small x.1) :
 ∃ d : Dt, cs = [.slice d.sA d.sn d.sc, .slice d.zA d.zn d.zc, .slice d.lA d.ln d.lc] ∧ DataAt w w.heap.size d := by
 obtain ⟨xs, n, _, rfl, hl, hlen, hf⟩ := DataW.trod_struct Tryz.underlying26 ht
 have hlen' : xs.length = 3 := by simpa using hlen
 match cs, hl.trans cellsData with
 | [c0, c1, c2], _ =>
   have h0 := hf 0 _ rfl
   have h1 := hf 1 _ rfl
   have h2 := hf 2 _ rfl
   simp [cellsSets, cellsZones, cellsLinks] at h0 h1 h2
   rw [List.getElem?_eq_getElem (by omega)] at h0 h1 h2
   obtain ⟨A0, n0, cap0, ss, e0, _, _, hss, _⟩ := open_slice_sm (α := St) (sz := 2) Tryz.underlying22 cellsSet (by omega) (fun w B b o s => StAt w b o s ∧ s.name.size ≤ maxLen ∧ RulesAt w B s.A s.n s.rs) (fun fuel cs x ht hx => by
    obtain ⟨a, rfl, hs, hr⟩ := trod_Set ht hx
    exact ⟨a, rfl, fun b o hc => ⟨⟨hc 0 (by omega), hc 1 (by omega)⟩, hs, hr⟩⟩) h0 (part_small hx (i := 0) (by omega))
   obtain ⟨A1, n1, cap1, zs, e1, _, _, hzs, _⟩ := open_slice_sm (α := Zn) (sz := 2) Tryz.underlying23 cellsZone (by omega) (fun w B b o z => ZnAt w b o z ∧ z.name.size ≤ maxLen ∧ ErasAt w B z.A z.n z.es) (fun fuel cs x ht hx => by
    obtain ⟨a, rfl, hs, hr⟩ := trod_Zone ht hx
    exact ⟨a, rfl, fun b o hc => ⟨⟨hc 0 (by omega), hc 1 (by omega)⟩, hs, hr⟩⟩) h1 (part_small hx (i := 1) (by omega))
   obtain ⟨A2, n2, cap2, ls, e2, _, _, hls, hn2, hN2⟩ := open_slice_sm (α := Lk) (sz := 2) Tryz.underlying24 cellsLink (by omega) (fun w B b o l => LkAt w b o l ∧ l.name.size ≤ maxLen ∧ l.to.size ≤ maxLen) (fun fuel cs x ht hx => by
    obtain ⟨a, rfl, hs, hr⟩ := trod_Link ht
    exact ⟨a, rfl, fun b o hc => ⟨⟨hc 0 (by omega), hc 1 (by omega)⟩, hs, hr⟩⟩) h2 (part_small hx (i := 2) (by omega))
   simp at e0 e1 e2
   exact ⟨{ sA := A0, sn := n0, sc := cap0, ss := ss, zA := A1, zn := n1, zc := cap1, zs := zs, lA := A2, ln := n2, lc := cap2, ls := ls }, by rw [e0, e1, e2], ⟨hss, hzs, hls, (show n2 ≤ fmtMax by unfold fmtMax; omega)⟩⟩
theorem trod_Uses {fuel : Nat} {cs : List Value} {x : DataW H × List MemPlace} (ht : DataW.trod enc Tryz.prog w base spare held fuel 27 cs = some x) :
 ∃ (A : Option Addr) (n cap : Nat) (l : List Us), cs = [.slice A n cap] ∧ n ≤ cap ∧ UsesAt w w.heap.size A n l := by
 obtain ⟨A, n, cap, l, e, hnc, _, h4⟩ := open_slice_gen (α := Us) (sz := 4) Tryz.underlying27 cellsUse (by omega) (fun w B b o u => UsAt w b o u ∧ u.zone.size ≤ maxLen ∧ u.mt.size ≤ maxLen) (fun fuel cs x ht => by
  obtain ⟨xs, n, _, _, hl, hlen, hf⟩ := DataW.trod_struct Tryz.underlying151 ht
  match cs, hl.trans cellsUse with
  | [c0, c1, c2, c3], _ =>
    have h0 := hf 0 _ rfl
    have h1 := hf 1 _ rfl
    have h2 := hf 2 _ rfl
    have h3 := hf 3 _ rfl
    simp [cellsInt, cellsString] at h0 h1 h2 h3
    rw [List.getElem?_eq_getElem (by simp at hlen; omega)] at h0 h1 h2 h3
    obtain ⟨z, e0, _, hs⟩ := DataW.trod_string Tryz.underlying9 h0
    obtain ⟨f, e1, _⟩ := DataW.trod_int Tryz.underlying3 h1
    obtain ⟨t, e2, _⟩ := DataW.trod_int Tryz.underlying3 h2
    obtain ⟨m, e3, _, hs3⟩ := DataW.trod_string Tryz.underlying9 h3
    simp at e0 e1 e2 e3
    exact ⟨⟨z, f, t, m⟩, rfl, fun b o hc => ⟨⟨by have h9 := hc 0 (by omega); rw [e0] at h9; exact h9, by have h9 := hc 1 (by omega); rw [e1] at h9; exact h9, by have h9 := hc 2 (by omega); rw [e2] at h9; exact h9, by have h9 := hc 3 (by omega); rw [e3] at h9; exact h9⟩, hs, hs3⟩⟩) ht
 exact ⟨A, n, cap, l, e, hnc, h4⟩
theorem trod_Books {fuel : Nat} {cs : List Value} {x : DataW H × List MemPlace} (ht : DataW.trod enc Tryz.prog w base spare held fuel 28 cs = some x) :
 ∃ (A : Option Addr) (n cap : Nat) (bs : List Bk), cs = [.slice A n cap] ∧ n ≤ cap ∧ BooksAt w w.heap.size A n bs := by
 obtain ⟨A, n, cap, l, e, hnc, _, h4⟩ := open_slice_gen (α := Bk) (sz := 3) Tryz.underlying28 cellsBook (by omega) (fun w B b o k => BookAt w b o k ∧ k.loc.size ≤ maxLen ∧ PairsAt w B k.A k.n k.ps) (fun fuel cs x ht => by
  obtain ⟨xs, n, _, _, hl, hlen, hf⟩ := DataW.trod_struct Tryz.underlying43 ht
  match cs, hl.trans cellsBook with
  | [c0, c1, c2], _ =>
    have h0 := hf 0 _ rfl
    have h1 := hf 1 _ rfl
    have h2 := hf 2 _ rfl
    simp [cellsInt', cellsString', cellsPairs] at h0 h1 h2
    rw [List.getElem?_eq_getElem (by simp at hlen; omega)] at h0 h1 h2
    obtain ⟨loc, e0, _, hs⟩ := DataW.trod_string Tryz.underlying9 h0
    obtain ⟨par, e1, _⟩ := DataW.trod_int Tryz.underlying3 h1
    obtain ⟨A2, n2, cap2, ps, e2, _, _, hps⟩ := open_slice_gen (α := Pr) (sz := 2) Tryz.underlying41 cellsPair (by omega) (fun w B b o k => PairAt w b o k ∧ k.key.size ≤ maxLen ∧ k.text.size ≤ maxLen) (fun fuel cs x ht => by
     obtain ⟨xs, n, _, _, hl, hlen, hf⟩ := DataW.trod_struct Tryz.underlying163 ht
     match cs, hl.trans cellsPair with
     | [c0, c1], _ =>
       have h0 := hf 0 _ rfl
       have h1 := hf 1 _ rfl
       simp [cellsString'] at h0 h1
       rw [List.getElem?_eq_getElem (by simp at hlen; omega)] at h0 h1
       obtain ⟨k, e0, _, hs⟩ := DataW.trod_string Tryz.underlying9 h0
       obtain ⟨t, e1, _, hs1⟩ := DataW.trod_string Tryz.underlying9 h1
       simp at e0 e1
       exact ⟨⟨k, t⟩, rfl, fun b o hc => ⟨⟨by have h9 := hc 0 (by omega); rw [e0] at h9; exact h9, by have h9 := hc 1 (by omega); rw [e1] at h9; exact h9⟩, hs, hs1⟩⟩) h2
    simp at e0 e1 e2
    exact ⟨⟨loc, par, A2, n2, cap2, ps⟩, rfl, fun b o hc => ⟨⟨by have h9 := hc 0 (by omega); rw [e0] at h9; exact h9, by have h9 := hc 1 (by omega); rw [e1] at h9; exact h9, by have h9 := hc 2 (by omega); rw [e2] at h9; exact h9⟩, hs, hps⟩⟩) ht
 exact ⟨A, n, cap, l, e, hnc, h4⟩
theorem openWorld {b0 : Nat} {r : Reach} {v : Value} {dt : DataW H} {p : List MemPlace}
 (hv : Value.okWide Tryz.prog w r b0 30 v) (h : DataW.Trod enc Tryz.prog w base spare held 30 v dt p) (hx : Small dt) :
 ∃ x : Wd, v = x.val ∧ WdAt w x ∧ x.un ≤ x.uc ∧ x.bn ≤ x.bc := by
 obtain ⟨cs, rfl, _⟩ := okWide_struct Tryz.underlying30 hv
 obtain ⟨fuel, hf0⟩ := h
 obtain ⟨xs, n, _, hxs, hl, hlen, hf⟩ := DataW.trod_struct Tryz.underlying30 hf0
 clear hf0
 have hdt : dt = .agg (xs.map (·.1)) := congrArg (·.1) hxs
 subst hdt
 have hlen' : xs.length = 3 := by simpa using hlen
 have hcl : cs.toList.length = 5 := by simpa [Value.cells] using hl.trans cellsWorld
 match cs, hcl with
 | ⟨[c0, c1, c2, c3, c4]⟩, _ =>
   have h0 := hf 0 _ rfl
   have h1 := hf 1 _ rfl
   have h2 := hf 2 _ rfl
   simp [cellsData, cellsUsesS, cellsBooksS, Value.cells] at h0 h1 h2
   rw [List.getElem?_eq_getElem (by omega)] at h0 h1 h2
   obtain ⟨d, e0, hD⟩ := trod_Data h0 (part_small hx (i := 0) (by omega))
   obtain ⟨A1, n1, cap1, us, e1, hnc1, hU⟩ := trod_Uses h1
   obtain ⟨A2, n2, cap2, bs, e2, hnc2, hB⟩ := trod_Books h2
   simp at e0 e1 e2
   exact ⟨⟨d, A1, n1, cap1, us, A2, n2, cap2, bs⟩, by rw [e0.1, e0.2.1, e0.2.2, e1, e2]; rfl, ⟨hD, hU, hB⟩, hnc1, hnc2⟩
end
end Go.Proofs.YtbbbeldbhlehnaaGreatDoor
end
