/- Parts of a proof, laid together. -/
import Derived.Deep.RegionHeld3
import Derived.BigRegion
import Derived.Test.YtlngalmdidaahaaGreatDoorMUMostP19
import Derived.Test.YtlngalmdidaahaaGreatDoorMUMostP33
import Derived.Test.YtlngalmdidaahaaGreatDoorMUMostP14
import Derived.Test.YtlngalmdidaahaaGreatDoorMUMostP11
import Derived.Test.YtlngalmdidaahaaGreatDoorMUMostP5
set_option linter.unusedSimpArgs false
set_option linter.unusedVariables false
/-! IndexFunc at eras and rules. -/
section
set_option linter.unusedVariables false
set_option linter.unusedSimpArgs false
namespace Go.Proofs.YtlngalmdidaahaaGreatDoor
open Go.RowKit Gno

/-- the function that is handed in tells p of each Er. -/
def PredEra (P : Program) (g : Nat) (lb : Array Value) (p : Er → Bool) (l : List Er) (w : World) : Prop :=
  ∀ (W : World) (x : Er), x ∈ l → Below w.heap.size w W → Calls P g (#[.agg #[.int .i64 x.std, .int .i64 x.set, .int .i64 x.save, .string x.fmt, .int .i64 x.til]] ++ lb) W fun e w' => e = .returned (.bool (p x)) ∧ Below W.heap.size W w'
set_option maxRecDepth 100000 in
set_option maxHeartbeats 4000000 in
theorem indexEra_any (g : Nat) (lb : Array Value) (eg : ∀ args w, (callFunc g args).run Tryz.prog w = .ok (.enter g args) w) (p : Er → Bool) (A : Option Addr) (n cap : Nat) (l : List Er) (w : World)
    (hR : ErasAt w w.heap.size A n l) (hp : PredEra Tryz.prog g lb p l w) :
    Calls Tryz.prog 61 #[.slice A n cap, .func (.func g) #[] lb] w fun e w' => e = .returned (.int .i64 (fst p l 0)) ∧ Below w.heap.size w w' := by
  have hn : n ≤ 9223372036854775807 := hR.2.1
  have HR := Lib.hid hR
  have HP := Lib.hid hp
  clear hR hp
  go_enter Tryz.func61, Tryz.ntmps61
  go_wp2
  go_loopw [8] (fun b0 wr => ∃ i : Nat, i ≤ n ∧ b0 = .int .i64 i ∧ Hid (fst p (l.drop i) i = fst p l 0) ∧ Below w.heap.size w wr) (fun b0 _ => n - (intOf b0).toNat)
  case atStart => exact ⟨0, Nat.zero_le _, rfl, Lib.hid (by simp), Below.refl _ _⟩
  case round =>
    obtain ⟨i, hi, rfl, hfd, hb⟩ := hrel
    by_cases hlt : i < n
    · obtain ⟨b, o, q, hA, hbB, hq, hqs, hqq⟩ := eras_get HR.out hlt
      subst hA
      obtain ⟨e0, e1, e2, e3, e4⟩ := hqq _ hb
      have hmem : q ∈ l := List.mem_of_getElem? hq
      have FD := Lib.hid (fst_drop (p := p) hq)
      have c := HP.out wr q hmem hb
      clear hq hqq hmem
      cases hpk : p q
      · rw [hpk] at c
        have C := Lib.hid c
        have HX := Lib.hid ((FD.out.2 hpk).symm.trans hfd.out)
        clear c hfd hpk
        go_wp2_with (go_at_fn g; (with_reducible refine C.out.mono ?_); rintro e w4 ⟨rfl, hb4⟩; have hb5 := hb.trans (hb4.mono hb.size); clear hb4)
        go_roundw
        case rel => exact ⟨i + 1, by omega, by go_num, HX, hb5⟩
        case measure => simp [intOf]; omega
      · rw [hpk] at c
        have C := Lib.hid c
        have HX := Lib.hid ((FD.out.1 hpk).symm.trans hfd.out)
        clear c hfd hpk
        go_wp2_with (go_at_fn g; (with_reducible refine C.out.mono ?_); rintro e w4 ⟨rfl, hb4⟩; have hb5 := hb.trans (hb4.mono hb.size); clear hb4)
        go_ret
        exact ⟨ret_int HX.out, hb5⟩
    · have HX := Lib.hid ((fst_end (p := p) (by have := HR.out.1; omega)).symm.trans hfd.out)
      go_wp2
      go_ret
      exact ⟨ret_int HX.out, hb⟩

/-- the function that is handed in tells p of each Rl. -/
def PredRule (P : Program) (g : Nat) (lb : Array Value) (p : Rl → Bool) (l : List Rl) (w : World) : Prop :=
  ∀ (W : World) (x : Rl), x ∈ l → Below w.heap.size w W → Calls P g (#[.agg #[.int .i64 x.fy, .int .i64 x.ty, .int .i64 x.mo, .int .i64 x.k, .int .i64 x.wk, .int .i64 x.d, .int .i64 x.a, .int .i64 x.sv, .string x.le]] ++ lb) W fun e w' => e = .returned (.bool (p x)) ∧ Below W.heap.size W w'
set_option maxRecDepth 100000 in
set_option maxHeartbeats 4000000 in
theorem indexRule_any (g : Nat) (lb : Array Value) (eg : ∀ args w, (callFunc g args).run Tryz.prog w = .ok (.enter g args) w) (p : Rl → Bool) (A : Option Addr) (n cap : Nat) (l : List Rl) (w : World)
    (hR : RulesAt w w.heap.size A n l) (hp : PredRule Tryz.prog g lb p l w) :
    Calls Tryz.prog 71 #[.slice A n cap, .func (.func g) #[] lb] w fun e w' => e = .returned (.int .i64 (fst p l 0)) ∧ Below w.heap.size w w' := by
  have hn : n ≤ 9223372036854775807 := hR.2.1
  have HR := Lib.hid hR
  have HP := Lib.hid hp
  clear hR hp
  go_enter Tryz.func71, Tryz.ntmps71
  go_wp2
  go_loopw [8] (fun b0 wr => ∃ i : Nat, i ≤ n ∧ b0 = .int .i64 i ∧ Hid (fst p (l.drop i) i = fst p l 0) ∧ Below w.heap.size w wr) (fun b0 _ => n - (intOf b0).toNat)
  case atStart => exact ⟨0, Nat.zero_le _, rfl, Lib.hid (by simp), Below.refl _ _⟩
  case round =>
    obtain ⟨i, hi, rfl, hfd, hb⟩ := hrel
    by_cases hlt : i < n
    · obtain ⟨b, o, q, hA, hbB, hq, hqs, hqq⟩ := RulesAt.get HR.out hlt
      subst hA
      obtain ⟨e0, e1, e2, e3, e4, e5, e6, e7, e8⟩ := hqq _ hb
      have hmem : q ∈ l := List.mem_of_getElem? hq
      have FD := Lib.hid (fst_drop (p := p) hq)
      have c := HP.out wr q hmem hb
      clear hq hqq hmem
      cases hpk : p q
      · rw [hpk] at c
        have C := Lib.hid c
        have HX := Lib.hid ((FD.out.2 hpk).symm.trans hfd.out)
        clear c hfd hpk
        go_wp2_with (go_at_fn g; (with_reducible refine C.out.mono ?_); rintro e w4 ⟨rfl, hb4⟩; have hb5 := hb.trans (hb4.mono hb.size); clear hb4)
        go_roundw
        case rel => exact ⟨i + 1, by omega, by go_num, HX, hb5⟩
        case measure => simp [intOf]; omega
      · rw [hpk] at c
        have C := Lib.hid c
        have HX := Lib.hid ((FD.out.1 hpk).symm.trans hfd.out)
        clear c hfd hpk
        go_wp2_with (go_at_fn g; (with_reducible refine C.out.mono ?_); rintro e w4 ⟨rfl, hb4⟩; have hb5 := hb.trans (hb4.mono hb.size); clear hb4)
        go_ret
        exact ⟨ret_int HX.out, hb5⟩
    · have HX := Lib.hid ((fst_end (p := p) (by have := HR.out.1; omega)).symm.trans hfd.out)
      go_wp2
      go_ret
      exact ⟨ret_int HX.out, hb⟩
end Go.Proofs.YtlngalmdidaahaaGreatDoor
end
/-! Data of two zones, and two links: what is right of them; the call that makes them. -/
section
set_option linter.unusedVariables false
set_option linter.unusedSimpArgs false
namespace Gno
open Go
def sEu : ByteArray := ⟨#[101, 117]⟩
def sLMT : ByteArray := ⟨#[76, 77, 84]⟩
def sCEsT : ByteArray := ⟨#[67, 69, 37, 115, 84]⟩
def sXT : ByteArray := ⟨#[88, 84]⟩
def sOld : ByteArray := ⟨#[69, 47, 79, 108, 100, 95, 84, 111, 119, 110]⟩
def sAW : ByteArray := ⟨#[65, 47, 87, 101, 115, 116]⟩
def sTown : ByteArray := ⟨#[84, 111, 119, 110]⟩
def sTt : ByteArray := ⟨#[84]⟩
def sXx1 : ByteArray := ⟨#[88]⟩
def euD (k : Nat) (s2 : Int) (t : ByteArray) : Dt :=
  { sA := some ⟨k + 2, 0, none⟩, sn := 1, sc := 1, ss := [⟨sEu, some ⟨k + 1, 0, none⟩, 2, 2, springs⟩],
    zA := some ⟨k + 5, 0, none⟩, zn := 2, zc := 2, zs := [⟨sOld, some ⟨k + 3, 0, none⟩, 2, 2, [⟨1800, -1, 0, sLMT, 500000000⟩, ⟨3600, 0, 0, sCEsT, 1893456000⟩]⟩, ⟨sAW, some ⟨k + 4, 0, none⟩, 1, 1, [⟨-18000, s2, 3600, sXT, 1893456000⟩]⟩],
    lA := some ⟨k + 6, 0, none⟩, ln := 2, lc := 2, ls := [⟨sTown, t⟩, ⟨sTt, sTown⟩] }
theorem eu_sets (k : Nat) (s2 : Int) (t : ByteArray) : setsE (euD k s2 t).ss = 0 := by
  show (if firstE springs ≠ 0 then firstE springs else 0) = 0
  rw [springs_ok]; rfl
theorem eu_some (k : Nat) (s2 : Int) (t : ByteArray) (h3 : anyI (fun _ => badNm) (allNames (euD k s2 t)) = false) : dataE (euD k s2 t) = dE6 (euD k s2 t) := by
  unfold dataE dE1 dE2 dE3 dE4 dE5
  rw [if_neg (by rw [show manyD (euD k s2 t) = false from rfl]; simp), if_neg (by rw [show anyI (fun _ => manyRules) (euD k s2 t).ss = false from rfl]; simp),
    if_neg (by rw [show anyI (fun _ => manyEras) (euD k s2 t).zs = false from rfl]; simp), if_neg (by rw [h3]; simp),
    if_neg (by rw [show (dup (sNames (euD k s2 t)) || dup (zNames (euD k s2 t) ++ lNames (euD k s2 t))) = false from by kernel_rfl]; simp), if_neg (by rw [eu_sets]; simp)]
theorem eu_ok (k : Nat) : dataE (euD k (-1) sOld) = 0 := by
  rw [eu_some k (-1) sOld (by kernel_rfl)]
  unfold dE6 dE7 dE8 dE9 dE10
  rw [if_neg (by rw [show (erasL (euD k (-1) sOld).zs).any (badE (euD k (-1) sOld)) = false from by kernel_rfl]; simp),
    if_neg (by rw [show anyI (fun _ => badEnd) (euD k (-1) sOld).zs = false from by kernel_rfl]; simp),
    if_neg (by rw [show (erasL (euD k (-1) sOld).zs).any badF = false from by kernel_rfl]; simp),
    if_neg (by rw [show anyI (fun _ => noTo (euD k (-1) sOld)) (lTos (euD k (-1) sOld)) = false from by kernel_rfl]; simp),
    if_neg (by rw [show anyI (fun _ => noLead (euD k (-1) sOld)) (lNames (euD k (-1) sOld)) = false from by kernel_rfl]; simp)]
theorem eu_round (k : Nat) : dataE (euD k (-1) sTt) = 7 := by
  rw [eu_some k (-1) sTt (by kernel_rfl)]
  unfold dE6 dE7 dE8 dE9 dE10
  rw [if_neg (by rw [show (erasL (euD k (-1) sTt).zs).any (badE (euD k (-1) sTt)) = false from by kernel_rfl]; simp),
    if_neg (by rw [show anyI (fun _ => badEnd) (euD k (-1) sTt).zs = false from by kernel_rfl]; simp),
    if_neg (by rw [show (erasL (euD k (-1) sTt).zs).any badF = false from by kernel_rfl]; simp),
    if_neg (by rw [show anyI (fun _ => noTo (euD k (-1) sTt)) (lTos (euD k (-1) sTt)) = false from by kernel_rfl]; simp),
    if_pos (by rw [show anyI (fun _ => noLead (euD k (-1) sTt)) (lNames (euD k (-1) sTt)) = true from by kernel_rfl])]
theorem eu_range (k : Nat) : dataE (euD k 0 sOld) = 3 := by
  rw [eu_some k 0 sOld (by kernel_rfl)]
  unfold dE6
  rw [if_pos (by rw [show (erasL (euD k 0 sOld).zs).any (badE (euD k 0 sOld)) = true from by kernel_rfl])]
theorem eu_T (k : Nat) : zoneK (euD k (-1) sOld) sTt = 0 ∧ zoneEr (euD k (-1) sOld) sTt = 0 := by
  have h : leadN (euD k (-1) sOld) sTt = 0 := by kernel_rfl
  have := zone_is (eu_ok k) (nm := sTt) (by rw [h]; simp)
  rwa [h] at this
theorem eu_X (k : Nat) : zoneK (euD k (-1) sOld) sXx1 = 0 ∧ zoneEr (euD k (-1) sOld) sXx1 = 4 := by
  have h : leadN (euD k (-1) sOld) sXx1 = -1 := by kernel_rfl
  exact zone_none (eu_ok k) (nm := sXx1) (by rw [h]; simp)
end Gno
namespace Go.Proofs.YtlngalmdidaahaaGreatDoor
open Go.RowKit Gno
def euO0 (k : Nat) : Obj := .cells #[.slice (some ⟨k + 1 + 1, 0, none⟩) 1 1, .slice (some ⟨k + 1 + 1 + 1 + 1 + 1, 0, none⟩) 2 2, .slice (some ⟨k + 1 + 1 + 1 + 1 + 1 + 1, 0, none⟩) 2 2] 26
def euO1 : Obj := .cells #[.int .i64 1980, .int .i64 2029, .int .i64 3, .int .i64 2, .int .i64 0, .int .i64 0, .int .i64 7200, .int .i64 3600, .string ⟨#[68]⟩,
        .int .i64 1980, .int .i64 2029, .int .i64 10, .int .i64 2, .int .i64 0, .int .i64 0, .int .i64 7200, .int .i64 0, .string ⟨#[83]⟩] 53
def euO2 (k : Nat) : Obj := .cells #[.string ⟨#[101, 117]⟩, .slice (some ⟨k + 1, 0, none⟩) 2 2] 49
def euO3 : Obj := .cells #[.int .i64 1800, .int .i64 (-1), .int .i64 0, .string ⟨#[76, 77, 84]⟩, .int .i64 500000000, .int .i64 3600, .int .i64 0, .int .i64 0, .string ⟨#[67, 69, 37, 115, 84]⟩, .int .i64 1893456000] 46
def euO4 (s2 : Int) : Obj := .cells #[.int .i64 (-18000), .int .i64 s2, .int .i64 3600, .string ⟨#[88, 84]⟩, .int .i64 1893456000] 46
def euO5 (k : Nat) : Obj := .cells #[.string ⟨#[69, 47, 79, 108, 100, 95, 84, 111, 119, 110]⟩, .slice (some ⟨k + 1 + 1 + 1, 0, none⟩) 2 2, .string ⟨#[65, 47, 87, 101, 115, 116]⟩, .slice (some ⟨k + 1 + 1 + 1 + 1, 0, none⟩) 1 1] 44
def euO6 (t : ByteArray) : Obj := .cells #[.string ⟨#[84, 111, 119, 110]⟩, .string t, .string ⟨#[84]⟩, .string ⟨#[84, 111, 119, 110]⟩] 89
def euW (w : World) : World := ((((((w.alloc (euO0 w.heap.size)).alloc euO1).alloc (euO2 w.heap.size)).alloc euO3).alloc (euO4 (-1))).alloc (euO5 w.heap.size)).alloc (euO6 sOld)
theorem euW_size (w : World) : (euW w).heap.size = w.heap.size + 7 := by simp [euW]
theorem euW_below (w : World) : Below w.heap.size w (euW w) :=
  ((((((((Below.refl _ _).alloc (Nat.le_refl _) _).alloc (by simp) _).alloc (by simp; omega) _).alloc (by simp; omega) _).alloc (by simp; omega) _).alloc (by simp; omega) _).alloc (by simp; omega) _)
/-- the blocks of the data. -/
structure EuIn (W : World) (k : Nat) (s2 : Int) (t : ByteArray) : Prop where
  o1 : W.heap[k + 1]? = some euO1
  o2 : W.heap[k + 2]? = some (euO2 k)
  o3 : W.heap[k + 3]? = some euO3
  o4 : W.heap[k + 4]? = some (euO4 s2)
  o5 : W.heap[k + 5]? = some (euO5 k)
  o6 : W.heap[k + 6]? = some (euO6 t)
theorem EuIn.below {W W' : World} {B k : Nat} {s2 : Int} {t : ByteArray} (h : EuIn W k s2 t) (hb : Below B W W') (hB : k + 7 ≤ B) : EuIn W' k s2 t :=
  ⟨(hb.block _ (by omega)).trans h.o1, (hb.block _ (by omega)).trans h.o2, (hb.block _ (by omega)).trans h.o3, (hb.block _ (by omega)).trans h.o4, (hb.block _ (by omega)).trans h.o5, (hb.block _ (by omega)).trans h.o6⟩
theorem push_at (w : World) (o : Obj) (b : Nat) (h : b = w.heap.size) : (w.alloc o).heap[b]? = some o := by subst h; exact World.alloc_heap_new w o
theorem push_past (w : World) (o : Obj) (b : Nat) (h : b < w.heap.size) : (w.alloc o).heap[b]? = w.heap[b]? := Below.heap_alloc _ _ _ h
theorem cell_of {W : World} {b o : Nat} {cs : Array Value} {T : TypeId} {v : Value} (h : W.heap[b]? = some (.cells cs T)) (hv : cs[o]? = some v) : W.cell? ⟨b, o, none⟩ = some v := by simp [World.cell?, h, hv]
theorem frozen_of {W : World} {b o : Nat} {cs : Array Value} {T : TypeId} (h : W.heap[b]? = some (.cells cs T)) : W.frozen? ⟨b, o, none⟩ = false := by simp [World.frozen?, h]
theorem euW_o0 (w : World) : (euW w).heap[w.heap.size]? = some (euO0 w.heap.size) := by
  unfold euW
  rw [push_past _ _ _ (by simp; omega), push_past _ _ _ (by simp; omega), push_past _ _ _ (by simp; omega), push_past _ _ _ (by simp; omega), push_past _ _ _ (by simp; omega), push_past _ _ _ (by simp), push_at _ _ _ rfl]
theorem euW_in (w : World) : EuIn (euW w) w.heap.size (-1) sOld := by
  unfold euW
  refine ⟨?_, ?_, ?_, ?_, ?_, ?_⟩
  · rw [push_past _ _ _ (by simp <;> omega), push_past _ _ _ (by simp <;> omega), push_past _ _ _ (by simp <;> omega), push_past _ _ _ (by simp <;> omega), push_past _ _ _ (by simp), push_at _ _ _ (by simp)]
  · rw [push_past _ _ _ (by simp <;> omega), push_past _ _ _ (by simp <;> omega), push_past _ _ _ (by simp <;> omega), push_past _ _ _ (by simp), push_at _ _ _ (by simp)]
  · rw [push_past _ _ _ (by simp <;> omega), push_past _ _ _ (by simp <;> omega), push_past _ _ _ (by simp), push_at _ _ _ (by simp)]
  · rw [push_past _ _ _ (by simp <;> omega), push_past _ _ _ (by simp), push_at _ _ _ (by simp)]
  · rw [push_past _ _ _ (by simp), push_at _ _ _ (by simp)]
  · rw [push_at _ _ _ (by simp)]
set_option maxRecDepth 100000 in
theorem europe_any (w : World) : Calls Tryz.prog 32 #[] w fun e w' => e = .returned (euD w.heap.size (-1) sOld).val ∧ w' = euW w := by
  go_enter Tryz.func32, Tryz.ntmps32
  go_wp2_with (go_at_call 65; refine (spring_any _).mono ?_; rintro e w1 ⟨rfl, rfl⟩)
  refine bodyPost_ret (results_cell_row rfl _ _ w.heap.size 26 _ (0, 0) _ rfl (euW_o0 w) Tryz.underlying26 rfl (by kernel_rfl)) rfl ⟨rfl, rfl⟩
theorem eu_rules {W : World} {k B : Nat} {s2 : Int} {t : ByteArray} (h : EuIn W k s2 t) (hB : k + 1 < B) : RulesAt W B (some ⟨k + 1, 0, none⟩) 2 springs := by
  have h1 := h.o1
  unfold euO1 at h1
  refine ⟨rfl, by decide, fun _ => ⟨k + 1, 0, rfl, hB, fun i r hr => ?_⟩⟩
  match i, hr with
  | 0, hr =>
    obtain rfl : sA = r := by simpa [springs] using hr
    exact ⟨⟨by simp [sA, World.cell?, h1], by simp [sA, World.cell?, h1], by simp [sA, World.cell?, h1], by simp [sA, World.cell?, h1], by simp [sA, World.cell?, h1], by simp [sA, World.cell?, h1], by simp [sA, World.cell?, h1], by simp [sA, World.cell?, h1], by simp [sA, World.cell?, h1]⟩, by decide⟩
  | 1, hr =>
    obtain rfl : sB = r := by simpa [springs] using hr
    exact ⟨⟨by simp [sB, World.cell?, h1], by simp [sB, World.cell?, h1], by simp [sB, World.cell?, h1], by simp [sB, World.cell?, h1], by simp [sB, World.cell?, h1], by simp [sB, World.cell?, h1], by simp [sB, World.cell?, h1], by simp [sB, World.cell?, h1], by simp [sB, World.cell?, h1]⟩, by decide⟩
  | i + 2, hr => simp [springs] at hr
theorem eu_data {W : World} {k B : Nat} {s2 : Int} {t : ByteArray} (h : EuIn W k s2 t) (hB : k + 7 ≤ B) (ht : t.size ≤ maxLen) : DataAt W B (euD k s2 t) := by
  have h2 := h.o2
  have h3 := h.o3
  have h4 := h.o4
  have h5 := h.o5
  have h6 := h.o6
  unfold euO2 at h2
  unfold euO3 at h3
  unfold euO4 at h4
  unfold euO5 at h5
  unfold euO6 at h6
  have m2 : (2 : Nat) ≤ maxLen := by unfold maxLen; omega
  have m1 : (1 : Nat) ≤ maxLen := by unfold maxLen; omega
  refine ⟨⟨rfl, m1, fun _ => ⟨k + 2, 0, rfl, by omega, fun i q hq => ?_⟩⟩, ⟨rfl, m2, fun _ => ⟨k + 5, 0, rfl, by omega, fun i q hq => ?_⟩⟩, ⟨rfl, m2, fun _ => ⟨k + 6, 0, rfl, by omega, fun i q hq => ?_⟩⟩, (by unfold fmtMax; show (2 : Nat) ≤ _; omega)⟩
  · match i, hq with
    | 0, hq =>
      obtain rfl : (⟨sEu, some ⟨k + 1, 0, none⟩, 2, 2, springs⟩ : St) = q := by simpa [euD] using hq
      exact ⟨⟨by simp [World.cell?, h2, sEu], by simp [World.cell?, h2]⟩, m2, eu_rules h (by omega)⟩
    | i + 1, hq => simp [euD] at hq
  · match i, hq with
    | 0, hq =>
      obtain rfl : (⟨sOld, some ⟨k + 3, 0, none⟩, 2, 2, [⟨1800, -1, 0, sLMT, 500000000⟩, ⟨3600, 0, 0, sCEsT, 1893456000⟩]⟩ : Zn) = q := by simpa [euD] using hq
      refine ⟨⟨by simp [World.cell?, h5, sOld], by simp [World.cell?, h5]⟩, (show (10 : Nat) ≤ maxLen by unfold maxLen; omega), ⟨rfl, m2, fun _ => ⟨k + 3, 0, rfl, by omega, fun j x hx => ?_⟩⟩⟩
      match j, hx with
      | 0, hx =>
        obtain rfl : (⟨1800, -1, 0, sLMT, 500000000⟩ : Er) = x := by simpa using hx
        exact ⟨⟨by simp [World.cell?, h3], by simp [World.cell?, h3], by simp [World.cell?, h3], by simp [World.cell?, h3, sLMT], by simp [World.cell?, h3]⟩, (show (3 : Nat) ≤ fmtMax by unfold fmtMax; omega)⟩
      | 1, hx =>
        obtain rfl : (⟨3600, 0, 0, sCEsT, 1893456000⟩ : Er) = x := by simpa using hx
        exact ⟨⟨by simp [World.cell?, h3], by simp [World.cell?, h3], by simp [World.cell?, h3], by simp [World.cell?, h3, sCEsT], by simp [World.cell?, h3]⟩, (show (5 : Nat) ≤ fmtMax by unfold fmtMax; omega)⟩
      | j + 2, hx => simp at hx
    | 1, hq =>
      obtain rfl : (⟨sAW, some ⟨k + 4, 0, none⟩, 1, 1, [⟨-18000, s2, 3600, sXT, 1893456000⟩]⟩ : Zn) = q := by simpa [euD] using hq
      refine ⟨⟨by simp [World.cell?, h5, sAW], by simp [World.cell?, h5]⟩, (show (6 : Nat) ≤ maxLen by unfold maxLen; omega), ⟨rfl, m1, fun _ => ⟨k + 4, 0, rfl, by omega, fun j x hx => ?_⟩⟩⟩
      match j, hx with
      | 0, hx =>
        obtain rfl : (⟨-18000, s2, 3600, sXT, 1893456000⟩ : Er) = x := by simpa using hx
        exact ⟨⟨by simp [World.cell?, h4], by simp [World.cell?, h4], by simp [World.cell?, h4], by simp [World.cell?, h4, sXT], by simp [World.cell?, h4]⟩, (show (2 : Nat) ≤ fmtMax by unfold fmtMax; omega)⟩
      | j + 1, hx => simp at hx
    | i + 2, hq => simp [euD] at hq
  · match i, hq with
    | 0, hq =>
      obtain rfl : (⟨sTown, t⟩ : Lk) = q := by simpa [euD] using hq
      exact ⟨⟨by simp [World.cell?, h6, sTown], by simp [World.cell?, h6]⟩, (show (4 : Nat) ≤ maxLen by unfold maxLen; omega), ht⟩
    | 1, hq =>
      obtain rfl : (⟨sTt, sTown⟩ : Lk) = q := by simpa [euD] using hq
      exact ⟨⟨by simp [World.cell?, h6, sTt], by simp [World.cell?, h6, sTown]⟩, (show (1 : Nat) ≤ maxLen by unfold maxLen; omega), (show (4 : Nat) ≤ maxLen by unfold maxLen; omega)⟩
    | i + 2, hq => simp [euD] at hq
theorem set_obj {W : World} {b o : Nat} {cs : Array Value} {T : TypeId} (h : W.heap[b]? = some (.cells cs T)) (v : Value) : (W.setCell ⟨b, o, none⟩ v).heap[b]? = some (.cells (cs.setIfInBounds o v) T) := by
  unfold World.setCell
  simp [Array.getElem?_modify, h]
theorem eu_set6 {W : World} {k : Nat} {s2 : Int} {t : ByteArray} (h : EuIn W k s2 t) (t' : ByteArray) : EuIn (W.setCell ⟨k + 6, 1, none⟩ (.string t')) k s2 t' :=
  ⟨(Below.heap_setCell W ⟨k + 6, 1, none⟩ _ _ (by simp)).trans h.o1, (Below.heap_setCell W ⟨k + 6, 1, none⟩ _ _ (by simp)).trans h.o2, (Below.heap_setCell W ⟨k + 6, 1, none⟩ _ _ (by simp)).trans h.o3, (Below.heap_setCell W ⟨k + 6, 1, none⟩ _ _ (by simp)).trans h.o4, (Below.heap_setCell W ⟨k + 6, 1, none⟩ _ _ (by simp)).trans h.o5, (set_obj h.o6 _).trans rfl⟩
theorem eu_set4 {W : World} {k : Nat} {s2 : Int} {t : ByteArray} (h : EuIn W k s2 t) (s : Int) : EuIn (W.setCell ⟨k + 4, 1, none⟩ (.int .i64 s)) k s t :=
  ⟨(Below.heap_setCell W ⟨k + 4, 1, none⟩ _ _ (by simp)).trans h.o1, (Below.heap_setCell W ⟨k + 4, 1, none⟩ _ _ (by simp)).trans h.o2, (Below.heap_setCell W ⟨k + 4, 1, none⟩ _ _ (by simp)).trans h.o3, (set_obj h.o4 _).trans rfl, (Below.heap_setCell W ⟨k + 4, 1, none⟩ _ _ (by simp)).trans h.o5, (Below.heap_setCell W ⟨k + 4, 1, none⟩ _ _ (by simp)).trans h.o6⟩
end Go.Proofs.YtlngalmdidaahaaGreatDoor
end
/-! What must be in any case of data. -/
section
set_option linter.unusedVariables false
set_option linter.unusedSimpArgs false
namespace Go.Proofs.YtlngalmdidaahaaGreatDoor
open Go.RowKit Gno
theorem eu_mk (W : World) : Calls Tryz.prog 32 #[] W fun e w' => e = .returned (.agg #[.slice (some ⟨W.heap.size + 2, 0, none⟩) 1 1, .slice (some ⟨W.heap.size + 5, 0, none⟩) 2 2, .slice (some ⟨W.heap.size + 6, 0, none⟩) 2 2]) ∧ w' = euW W := europe_any W
theorem eu_chk (W : World) (k : Nat) (s2 : Int) (t : ByteArray) (h : EuIn W k s2 t) (hB : k + 7 ≤ W.heap.size) (ht : t.size ≤ maxLen) (hM : MaxAt W W.heap.size) {e : Int} (he : dataE (euD k s2 t) = e) :
    Calls Tryz.prog 39 #[.agg #[.slice (some ⟨k + 2, 0, none⟩) 1 1, .slice (some ⟨k + 5, 0, none⟩) 2 2, .slice (some ⟨k + 6, 0, none⟩) 2 2]] W fun e' w' => e' = .returned (.int .i64 e) ∧ Below W.heap.size W w' := by
  have := check_any (euD k s2 t) W (eu_data h hB ht) hM
  rwa [he] at this
theorem eu_zone (W : World) (k : Nat) (s2 : Int) (t : ByteArray) (h : EuIn W k s2 t) (hB : k + 7 ≤ W.heap.size) (ht : t.size ≤ maxLen) (hM : MaxAt W W.heap.size) (nm : ByteArray) {z e : Int} (he : zoneK (euD k s2 t) nm = z ∧ zoneEr (euD k s2 t) nm = e) :
    Calls Tryz.prog 19 #[.agg #[.slice (some ⟨k + 2, 0, none⟩) 1 1, .slice (some ⟨k + 5, 0, none⟩) 2 2, .slice (some ⟨k + 6, 0, none⟩) 2 2], .string nm] W fun e' w' => e' = .returned (.tuple #[.int .i64 z, .int .i64 e]) ∧ Below W.heap.size W w' := by
  have := zone_any (euD k s2 t) nm W (eu_data h hB ht) hM
  rwa [he.1, he.2] at this
theorem euW_next {w0 w : World} (h : Below w0.heap.size w0 w) : Below w0.heap.size w0 (euW w) := h.trans ((euW_below w).mono h.size)
theorem old_le : sOld.size ≤ maxLen := (show (10 : Nat) ≤ maxLen by unfold maxLen; omega)
theorem tt_le : sTt.size ≤ maxLen := (show (1 : Nat) ≤ maxLen by unfold maxLen; omega)
theorem nm_ok : nameOk sOld = true := by kernel_rfl
theorem nm_no1 : nameOk ⟨#[69, 47]⟩ = false := by kernel_rfl
theorem nm_no2 : nameOk ⟨#[49, 97]⟩ = false := by kernel_rfl
/-- a box behind all that was, and a cell of one of the data's blocks written. -/
theorem eu_box (w2 : World) : EuIn ((euW w2).alloc (Dobj (euD w2.heap.size (-1) sOld))) w2.heap.size (-1) sOld :=
  (euW_in w2).below ((Below.refl _ _).alloc (Nat.le_refl _) _) (by rw [euW_size]; omega)
end Go.Proofs.YtlngalmdidaahaaGreatDoor
end
/-! The walk of DataTells. -/
section
set_option linter.unusedVariables false
set_option linter.unusedSimpArgs false
namespace Go.Proofs.YtlngalmdidaahaaGreatDoor
open Go.RowKit Gno
/-- the data's box, and what lies below it, in each later world. -/
theorem box_next {d : Dt} {w W : World} (hD : DataAt w w.heap.size d) (hb : Below (w.heap.size + 1) (w.alloc (Dobj d)) W) :
    Below w.heap.size w W ∧ DataAt W W.heap.size d ∧ W.cell? ⟨w.heap.size, 0, none⟩ = some (.slice d.sA d.sn d.sc) ∧ W.cell? ⟨w.heap.size, 1, none⟩ = some (.slice d.zA d.zn d.zc) ∧ W.cell? ⟨w.heap.size, 2, none⟩ = some (.slice d.lA d.ln d.lc) := by
  have h1 : Below w.heap.size w W := ((Below.refl w.heap.size w).alloc (Nat.le_refl _) (Dobj d)).trans (hb.mono (by omega))
  exact ⟨h1, hD.next h1, (hb.cell (p := ⟨w.heap.size, 0, none⟩) (by simp)).trans (by rw [World.cell?_alloc_at _ _ _ _ rfl]; rfl), (hb.cell (p := ⟨w.heap.size, 1, none⟩) (by simp)).trans (by rw [World.cell?_alloc_at _ _ _ _ rfl]; rfl), (hb.cell (p := ⟨w.heap.size, 2, none⟩) (by simp)).trans (by rw [World.cell?_alloc_at _ _ _ _ rfl]; rfl)⟩
end Go.Proofs.YtlngalmdidaahaaGreatDoor
end
/-! The walk of DataLinks. -/
section
set_option linter.unusedVariables false
set_option linter.unusedSimpArgs false
namespace Go.Proofs.YtlngalmdidaahaaGreatDoor
open Go.RowKit Gno
abbrev BoxB (d : Dt) (w W : World) : Prop := Below (w.heap.size + 1) (w.alloc (.cells #[.slice d.sA d.sn d.sc, .slice d.zA d.zn d.zc, .slice d.lA d.ln d.lc] 26)) W
end Go.Proofs.YtlngalmdidaahaaGreatDoor
end
