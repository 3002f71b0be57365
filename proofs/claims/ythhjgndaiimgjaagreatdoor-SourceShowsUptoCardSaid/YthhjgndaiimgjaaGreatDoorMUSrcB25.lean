/- Parts of a proof, laid together. -/
import Derived.Deep.RegionHeld3
import Derived.BigRegion
import Derived.Deep.CutRange
import Derived.BigQuiet
import Derived.Lib.Replace
import Derived.Lib.IndexMore
import Derived.Test.YthhjgndaiimgjaaGreatDoorMUSrcB23
import Derived.Test.YthhjgndaiimgjaaGreatDoorMUSrcB4
import Derived.Test.YthhjgndaiimgjaaGreatDoorMUSrcB8
import Derived.Test.YthhjgndaiimgjaaGreatDoorMUSrcB0
import Derived.Test.YthhjgndaiimgjaaGreatDoorMUSrcB6
set_option linter.unusedSimpArgs false
set_option linter.unusedVariables false
/-! Data of two zones, and two links: what is right of them; the call that makes them. -/
section
set_option linter.unusedVariables false
set_option linter.unusedSimpArgs false
namespace Gno
open Go
def sEu : ByteArray := ⟨#[101, 117]⟩
def sLMT : ByteArray := ⟨#[76, 77, 84]⟩
def sCEsT : ByteArray := ⟨#[67, 69, 37, 115, 84]⟩
def sXT : ByteArray := ⟨#[88, 84]⟩
def sOld : ByteArray := ⟨#[69, 47, 79, 108, 100, 95, 84, 111, 119, 110]⟩
def sAW : ByteArray := ⟨#[65, 47, 87, 101, 115, 116]⟩
def sTown : ByteArray := ⟨#[84, 111, 119, 110]⟩
def sTt : ByteArray := ⟨#[84]⟩
def sXx1 : ByteArray := ⟨#[88]⟩
def euD (k : Nat) (s2 : Int) (t : ByteArray) : Dt :=
  { sA := some ⟨k + 2, 0, none⟩, sn := 1, sc := 1, ss := [⟨sEu, some ⟨k + 1, 0, none⟩, 2, 2, springs⟩],
    zA := some ⟨k + 5, 0, none⟩, zn := 2, zc := 2, zs := [⟨sOld, some ⟨k + 3, 0, none⟩, 2, 2, [⟨1800, -1, 0, sLMT, 500000000⟩, ⟨3600, 0, 0, sCEsT, 1893456000⟩]⟩, ⟨sAW, some ⟨k + 4, 0, none⟩, 1, 1, [⟨-18000, s2, 3600, sXT, 1893456000⟩]⟩],
    lA := some ⟨k + 6, 0, none⟩, ln := 2, lc := 2, ls := [⟨sTown, t⟩, ⟨sTt, sTown⟩] }
theorem eu_sets (k : Nat) (s2 : Int) (t : ByteArray) : setsE (euD k s2 t).ss = 0 := by
  show (if firstE springs ≠ 0 then firstE springs else 0) = 0
  rw [springs_ok]; rfl
theorem eu_some (k : Nat) (s2 : Int) (t : ByteArray) (h3 : anyI (fun _ => badNm) (allNames (euD k s2 t)) = false) : dataE (euD k s2 t) = dE6 (euD k s2 t) := by
  unfold dataE dE1 dE2 dE3 dE4 dE5
  rw [if_neg (by rw [show manyD (euD k s2 t) = false from rfl]; simp), if_neg (by rw [show anyI (fun _ => manyRules) (euD k s2 t).ss = false from rfl]; simp),
    if_neg (by rw [show anyI (fun _ => manyEras) (euD k s2 t).zs = false from rfl]; simp), if_neg (by rw [h3]; simp),
    if_neg (by rw [show (dup (sNames (euD k s2 t)) || dup (zNames (euD k s2 t) ++ lNames (euD k s2 t))) = false from by kernel_rfl]; simp), if_neg (by rw [eu_sets]; simp)]
theorem eu_ok (k : Nat) : dataE (euD k (-1) sOld) = 0 := by
  rw [eu_some k (-1) sOld (by kernel_rfl)]
  unfold dE6 dE7 dE8 dE9 dE10
  rw [if_neg (by rw [show (erasL (euD k (-1) sOld).zs).any (badE (euD k (-1) sOld)) = false from by kernel_rfl]; simp),
    if_neg (by rw [show anyI (fun _ => badEnd) (euD k (-1) sOld).zs = false from by kernel_rfl]; simp),
    if_neg (by rw [show (erasL (euD k (-1) sOld).zs).any badF = false from by kernel_rfl]; simp),
    if_neg (by rw [show anyI (fun _ => noTo (euD k (-1) sOld)) (lTos (euD k (-1) sOld)) = false from by kernel_rfl]; simp),
    if_neg (by rw [show anyI (fun _ => noLead (euD k (-1) sOld)) (lNames (euD k (-1) sOld)) = false from by kernel_rfl]; simp)]
end Gno
namespace Go.Proofs.YthhjgndaiimgjaaGreatDoor
open Go.RowKit Gno
def euO0 (k : Nat) : Obj := .cells #[.slice (some ⟨k + 1 + 1, 0, none⟩) 1 1, .slice (some ⟨k + 1 + 1 + 1 + 1 + 1, 0, none⟩) 2 2, .slice (some ⟨k + 1 + 1 + 1 + 1 + 1 + 1, 0, none⟩) 2 2] 26
def euO1 : Obj := .cells #[.int .i64 1980, .int .i64 2029, .int .i64 3, .int .i64 2, .int .i64 0, .int .i64 0, .int .i64 7200, .int .i64 3600, .string ⟨#[68]⟩,
        .int .i64 1980, .int .i64 2029, .int .i64 10, .int .i64 2, .int .i64 0, .int .i64 0, .int .i64 7200, .int .i64 0, .string ⟨#[83]⟩] 53
def euO2 (k : Nat) : Obj := .cells #[.string ⟨#[101, 117]⟩, .slice (some ⟨k + 1, 0, none⟩) 2 2] 48
def euO3 : Obj := .cells #[.int .i64 1800, .int .i64 (-1), .int .i64 0, .string ⟨#[76, 77, 84]⟩, .int .i64 500000000, .int .i64 3600, .int .i64 0, .int .i64 0, .string ⟨#[67, 69, 37, 115, 84]⟩, .int .i64 1893456000] 59
def euO4 (s2 : Int) : Obj := .cells #[.int .i64 (-18000), .int .i64 s2, .int .i64 3600, .string ⟨#[88, 84]⟩, .int .i64 1893456000] 59
def euO5 (k : Nat) : Obj := .cells #[.string ⟨#[69, 47, 79, 108, 100, 95, 84, 111, 119, 110]⟩, .slice (some ⟨k + 1 + 1 + 1, 0, none⟩) 2 2, .string ⟨#[65, 47, 87, 101, 115, 116]⟩, .slice (some ⟨k + 1 + 1 + 1 + 1, 0, none⟩) 1 1] 57
def euO6 (t : ByteArray) : Obj := .cells #[.string ⟨#[84, 111, 119, 110]⟩, .string t, .string ⟨#[84]⟩, .string ⟨#[84, 111, 119, 110]⟩] 61
def euW (w : World) : World := ((((((w.alloc (euO0 w.heap.size)).alloc euO1).alloc (euO2 w.heap.size)).alloc euO3).alloc (euO4 (-1))).alloc (euO5 w.heap.size)).alloc (euO6 sOld)
theorem euW_size (w : World) : (euW w).heap.size = w.heap.size + 7 := by simp [euW]
theorem euW_below (w : World) : Below w.heap.size w (euW w) :=
  ((((((((Below.refl _ _).alloc (Nat.le_refl _) _).alloc (by simp) _).alloc (by simp; omega) _).alloc (by simp; omega) _).alloc (by simp; omega) _).alloc (by simp; omega) _).alloc (by simp; omega) _)
/-- the blocks of the data. -/
structure EuIn (W : World) (k : Nat) (s2 : Int) (t : ByteArray) : Prop where
  o1 : W.heap[k + 1]? = some euO1
  o2 : W.heap[k + 2]? = some (euO2 k)
  o3 : W.heap[k + 3]? = some euO3
  o4 : W.heap[k + 4]? = some (euO4 s2)
  o5 : W.heap[k + 5]? = some (euO5 k)
  o6 : W.heap[k + 6]? = some (euO6 t)
theorem EuIn.below {W W' : World} {B k : Nat} {s2 : Int} {t : ByteArray} (h : EuIn W k s2 t) (hb : Below B W W') (hB : k + 7 ≤ B) : EuIn W' k s2 t :=
  ⟨(hb.block _ (by omega)).trans h.o1, (hb.block _ (by omega)).trans h.o2, (hb.block _ (by omega)).trans h.o3, (hb.block _ (by omega)).trans h.o4, (hb.block _ (by omega)).trans h.o5, (hb.block _ (by omega)).trans h.o6⟩
theorem push_at (w : World) (o : Obj) (b : Nat) (h : b = w.heap.size) : (w.alloc o).heap[b]? = some o := by subst h; exact World.alloc_heap_new w o
theorem push_past (w : World) (o : Obj) (b : Nat) (h : b < w.heap.size) : (w.alloc o).heap[b]? = w.heap[b]? := Below.heap_alloc _ _ _ h
theorem cell_of {W : World} {b o : Nat} {cs : Array Value} {T : TypeId} {v : Value} (h : W.heap[b]? = some (.cells cs T)) (hv : cs[o]? = some v) : W.cell? ⟨b, o, none⟩ = some v := by simp [World.cell?, h, hv]
theorem frozen_of {W : World} {b o : Nat} {cs : Array Value} {T : TypeId} (h : W.heap[b]? = some (.cells cs T)) : W.frozen? ⟨b, o, none⟩ = false := by simp [World.frozen?, h]
theorem euW_o0 (w : World) : (euW w).heap[w.heap.size]? = some (euO0 w.heap.size) := by
  unfold euW
  rw [push_past _ _ _ (by simp; omega), push_past _ _ _ (by simp; omega), push_past _ _ _ (by simp; omega), push_past _ _ _ (by simp; omega), push_past _ _ _ (by simp; omega), push_past _ _ _ (by simp), push_at _ _ _ rfl]
theorem euW_in (w : World) : EuIn (euW w) w.heap.size (-1) sOld := by
  unfold euW
  refine ⟨?_, ?_, ?_, ?_, ?_, ?_⟩
  · rw [push_past _ _ _ (by simp <;> omega), push_past _ _ _ (by simp <;> omega), push_past _ _ _ (by simp <;> omega), push_past _ _ _ (by simp <;> omega), push_past _ _ _ (by simp), push_at _ _ _ (by simp)]
  · rw [push_past _ _ _ (by simp <;> omega), push_past _ _ _ (by simp <;> omega), push_past _ _ _ (by simp <;> omega), push_past _ _ _ (by simp), push_at _ _ _ (by simp)]
  · rw [push_past _ _ _ (by simp <;> omega), push_past _ _ _ (by simp <;> omega), push_past _ _ _ (by simp), push_at _ _ _ (by simp)]
  · rw [push_past _ _ _ (by simp <;> omega), push_past _ _ _ (by simp), push_at _ _ _ (by simp)]
  · rw [push_past _ _ _ (by simp), push_at _ _ _ (by simp)]
  · rw [push_at _ _ _ (by simp)]
set_option maxRecDepth 100000 in
theorem europe_any (w : World) : Calls Tryz.prog 31 #[] w fun e w' => e = .returned (euD w.heap.size (-1) sOld).val ∧ w' = euW w := by
  go_enter Tryz.func31, Tryz.ntmps31
  go_wp2_with (go_at_call 70; refine (spring_any _).mono ?_; rintro e w1 ⟨rfl, rfl⟩)
  refine bodyPost_ret (results_cell_row rfl _ _ w.heap.size 26 _ (0, 0) _ rfl (euW_o0 w) Tryz.underlying26 rfl (by kernel_rfl)) rfl ⟨rfl, rfl⟩
theorem eu_rules {W : World} {k B : Nat} {s2 : Int} {t : ByteArray} (h : EuIn W k s2 t) (hB : k + 1 < B) : RulesAt W B (some ⟨k + 1, 0, none⟩) 2 springs := by
  have h1 := h.o1
  unfold euO1 at h1
  refine ⟨rfl, by decide, fun _ => ⟨k + 1, 0, rfl, hB, fun i r hr => ?_⟩⟩
  match i, hr with
  | 0, hr =>
    obtain rfl : sA = r := by simpa [springs] using hr
    exact ⟨⟨by simp [sA, World.cell?, h1], by simp [sA, World.cell?, h1], by simp [sA, World.cell?, h1], by simp [sA, World.cell?, h1], by simp [sA, World.cell?, h1], by simp [sA, World.cell?, h1], by simp [sA, World.cell?, h1], by simp [sA, World.cell?, h1], by simp [sA, World.cell?, h1]⟩, by decide⟩
  | 1, hr =>
    obtain rfl : sB = r := by simpa [springs] using hr
    exact ⟨⟨by simp [sB, World.cell?, h1], by simp [sB, World.cell?, h1], by simp [sB, World.cell?, h1], by simp [sB, World.cell?, h1], by simp [sB, World.cell?, h1], by simp [sB, World.cell?, h1], by simp [sB, World.cell?, h1], by simp [sB, World.cell?, h1], by simp [sB, World.cell?, h1]⟩, by decide⟩
  | i + 2, hr => simp [springs] at hr
theorem eu_data {W : World} {k B : Nat} {s2 : Int} {t : ByteArray} (h : EuIn W k s2 t) (hB : k + 7 ≤ B) (ht : t.size ≤ maxLen) : DataAt W B (euD k s2 t) := by
  have h2 := h.o2
  have h3 := h.o3
  have h4 := h.o4
  have h5 := h.o5
  have h6 := h.o6
  unfold euO2 at h2
  unfold euO3 at h3
  unfold euO4 at h4
  unfold euO5 at h5
  unfold euO6 at h6
  have m2 : (2 : Nat) ≤ maxLen := by unfold maxLen; omega
  have m1 : (1 : Nat) ≤ maxLen := by unfold maxLen; omega
  refine ⟨⟨rfl, m1, fun _ => ⟨k + 2, 0, rfl, by omega, fun i q hq => ?_⟩⟩, ⟨rfl, m2, fun _ => ⟨k + 5, 0, rfl, by omega, fun i q hq => ?_⟩⟩, ⟨rfl, m2, fun _ => ⟨k + 6, 0, rfl, by omega, fun i q hq => ?_⟩⟩, (by unfold fmtMax; show (2 : Nat) ≤ _; omega)⟩
  · match i, hq with
    | 0, hq =>
      obtain rfl : (⟨sEu, some ⟨k + 1, 0, none⟩, 2, 2, springs⟩ : St) = q := by simpa [euD] using hq
      exact ⟨⟨by simp [World.cell?, h2, sEu], by simp [World.cell?, h2]⟩, m2, eu_rules h (by omega)⟩
    | i + 1, hq => simp [euD] at hq
  · match i, hq with
    | 0, hq =>
      obtain rfl : (⟨sOld, some ⟨k + 3, 0, none⟩, 2, 2, [⟨1800, -1, 0, sLMT, 500000000⟩, ⟨3600, 0, 0, sCEsT, 1893456000⟩]⟩ : Zn) = q := by simpa [euD] using hq
      refine ⟨⟨by simp [World.cell?, h5, sOld], by simp [World.cell?, h5]⟩, (show (10 : Nat) ≤ maxLen by unfold maxLen; omega), ⟨rfl, m2, fun _ => ⟨k + 3, 0, rfl, by omega, fun j x hx => ?_⟩⟩⟩
      match j, hx with
      | 0, hx =>
        obtain rfl : (⟨1800, -1, 0, sLMT, 500000000⟩ : Er) = x := by simpa using hx
        exact ⟨⟨by simp [World.cell?, h3], by simp [World.cell?, h3], by simp [World.cell?, h3], by simp [World.cell?, h3, sLMT], by simp [World.cell?, h3]⟩, (show (3 : Nat) ≤ fmtMax by unfold fmtMax; omega)⟩
      | 1, hx =>
        obtain rfl : (⟨3600, 0, 0, sCEsT, 1893456000⟩ : Er) = x := by simpa using hx
        exact ⟨⟨by simp [World.cell?, h3], by simp [World.cell?, h3], by simp [World.cell?, h3], by simp [World.cell?, h3, sCEsT], by simp [World.cell?, h3]⟩, (show (5 : Nat) ≤ fmtMax by unfold fmtMax; omega)⟩
      | j + 2, hx => simp at hx
    | 1, hq =>
      obtain rfl : (⟨sAW, some ⟨k + 4, 0, none⟩, 1, 1, [⟨-18000, s2, 3600, sXT, 1893456000⟩]⟩ : Zn) = q := by simpa [euD] using hq
      refine ⟨⟨by simp [World.cell?, h5, sAW], by simp [World.cell?, h5]⟩, (show (6 : Nat) ≤ maxLen by unfold maxLen; omega), ⟨rfl, m1, fun _ => ⟨k + 4, 0, rfl, by omega, fun j x hx => ?_⟩⟩⟩
      match j, hx with
      | 0, hx =>
        obtain rfl : (⟨-18000, s2, 3600, sXT, 1893456000⟩ : Er) = x := by simpa using hx
        exact ⟨⟨by simp [World.cell?, h4], by simp [World.cell?, h4], by simp [World.cell?, h4], by simp [World.cell?, h4, sXT], by simp [World.cell?, h4]⟩, (show (2 : Nat) ≤ fmtMax by unfold fmtMax; omega)⟩
      | j + 1, hx => simp at hx
    | i + 2, hq => simp [euD] at hq
  · match i, hq with
    | 0, hq =>
      obtain rfl : (⟨sTown, t⟩ : Lk) = q := by simpa [euD] using hq
      exact ⟨⟨by simp [World.cell?, h6, sTown], by simp [World.cell?, h6]⟩, (show (4 : Nat) ≤ maxLen by unfold maxLen; omega), ht⟩
    | 1, hq =>
      obtain rfl : (⟨sTt, sTown⟩ : Lk) = q := by simpa [euD] using hq
      exact ⟨⟨by simp [World.cell?, h6, sTt], by simp [World.cell?, h6, sTown]⟩, (show (1 : Nat) ≤ maxLen by unfold maxLen; omega), (show (4 : Nat) ≤ maxLen by unfold maxLen; omega)⟩
    | i + 2, hq => simp [euD] at hq
end Go.Proofs.YthhjgndaiimgjaaGreatDoor
end
/-! What must be in any case of data. -/
section
set_option linter.unusedVariables false
set_option linter.unusedSimpArgs false
namespace Go.Proofs.YthhjgndaiimgjaaGreatDoor
open Go.RowKit Gno
theorem eu_mk (W : World) : Calls Tryz.prog 31 #[] W fun e w' => e = .returned (.agg #[.slice (some ⟨W.heap.size + 2, 0, none⟩) 1 1, .slice (some ⟨W.heap.size + 5, 0, none⟩) 2 2, .slice (some ⟨W.heap.size + 6, 0, none⟩) 2 2]) ∧ w' = euW W := europe_any W
theorem euW_next {w0 w : World} (h : Below w0.heap.size w0 w) : Below w0.heap.size w0 (euW w) := h.trans ((euW_below w).mono h.size)
theorem old_le : sOld.size ≤ maxLen := (show (10 : Nat) ≤ maxLen by unfold maxLen; omega)
end Go.Proofs.YthhjgndaiimgjaaGreatDoor
end
/-! The reference's DataText. -/
section
set_option linter.unusedVariables false
set_option linter.unusedSimpArgs false
set_option maxRecDepth 100000
namespace Gno
open Go Go.RowKit Go.Proofs.YthhjgndaiimgjaaGreatDoor
def Num (n : Int) : Prop := -1000000000000000000 < n ∧ n < 1000000000000000000
/-- what the shower wants of data: few things, short names, numbers that are no giants. -/
structure ShowOk (d : Dt) : Prop where
  few : d.sn ≤ 3 ∧ d.zn ≤ 5 ∧ d.ln ≤ 4
  sets : ∀ s ∈ d.ss, s.n ≤ 4 ∧ s.name.size ≤ 12 ∧ ∀ r ∈ s.rs, (Num r.fy ∧ Num r.ty ∧ Num r.mo ∧ Num r.k ∧ Num r.wk ∧ Num r.d ∧ Num r.a ∧ Num r.sv) ∧ r.le.size ≤ 12
  zones : ∀ z ∈ d.zs, z.n ≤ 4 ∧ z.name.size ≤ 12 ∧ ∀ x ∈ z.es, (Num x.std ∧ Num x.set ∧ Num x.save ∧ Num x.til) ∧ x.fmt.size ≤ 12
  links : ∀ l ∈ d.ls, l.name.size ≤ 12 ∧ l.to.size ≤ 12
theorem B_Bs (l : Bt) : B l = Bs l := rfl
theorem Bs_app (a b : Bt) : Bs a ++ Bs b = Bs (a ++ b) := B_app a b
theorem Bs_data (s : ByteArray) (l : Bt) : Bs l ++ s = Bs (l ++ s.data.toList) := by conv => lhs; rw [← Bs_list s]; rw [Bs_app]
theorem numsL_size {l : List Int} (h : ∀ n ∈ l, Num n) : (B (numsL l)).size ≤ 22 * l.length := by
  rw [B_size]
  induction l with
  | nil => simp [numsL]
  | cons a t ih =>
    have h1 := ih (fun n hn => h n (List.mem_cons_of_mem _ hn))
    have h2 := h a (by simp)
    have h3 := itoa_size h2.1 h2.2
    rw [B_size] at h3
    have e : numsL (a :: t) = (32 :: Lib.itoa a) ++ numsL t := by unfold numsL; rw [List.flatMap_cons]
    rw [e, List.length_append, List.length_cons, List.length_cons]
    omega
theorem step_set {T : ByteArray} {ls : List (List Bt)} {nm : ByteArray} (h : T = Bs (textW ls)) : ((T ++ ⟨#[115, 101, 116, 32]⟩) ++ nm) ++ ⟨#[10]⟩ = Bs (textW (ls ++ [[wSet, nm.data.toList]])) := by
  rw [h, show (⟨#[115, 101, 116, 32]⟩ : ByteArray) = Bs [115, 101, 116, 32] from rfl, Bs_app, Bs_data, show (⟨#[10]⟩ : ByteArray) = Bs [10] from rfl, Bs_app, text_snoc, line_flat]
  congr 1; unfold wSet; simp
theorem step_zone {T : ByteArray} {ls : List (List Bt)} {nm : ByteArray} (h : T = Bs (textW ls)) : ((T ++ ⟨#[122, 111, 110, 101, 32]⟩) ++ nm) ++ ⟨#[10]⟩ = Bs (textW (ls ++ [[wZone, nm.data.toList]])) := by
  rw [h, show (⟨#[122, 111, 110, 101, 32]⟩ : ByteArray) = Bs [122, 111, 110, 101, 32] from rfl, Bs_app, Bs_data, show (⟨#[10]⟩ : ByteArray) = Bs [10] from rfl, Bs_app, text_snoc, line_flat]
  congr 1; unfold wZone; simp
theorem step_link {T : ByteArray} {ls : List (List Bt)} {a b : ByteArray} (h : T = Bs (textW ls)) : ((((T ++ ⟨#[108, 105, 110, 107, 32]⟩) ++ a) ++ ⟨#[32]⟩) ++ b) ++ ⟨#[10]⟩ = Bs (textW (ls ++ [[wLink, a.data.toList, b.data.toList]])) := by
  rw [h, show (⟨#[108, 105, 110, 107, 32]⟩ : ByteArray) = Bs [108, 105, 110, 107, 32] from rfl, Bs_app, Bs_data, show (⟨#[32]⟩ : ByteArray) = Bs [32] from rfl, Bs_app, Bs_data, show (⟨#[10]⟩ : ByteArray) = Bs [10] from rfl, Bs_app, text_snoc, line_flat]
  congr 1; unfold wLink; simp
theorem flat_nums (l : List Int) (t : List Bt) : (l.map Lib.itoa ++ t).flatMap (fun w => (32 : UInt8) :: w) = numsL l ++ t.flatMap (fun w => 32 :: w) := by
  rw [List.flatMap_append, List.flatMap_map]; rfl
theorem step_rule2 {T : ByteArray} {ls : List (List Bt)} {r : Rl} {a le : ByteArray} (h : T = Bs (textW ls)) (ha : a = B (numsL (cnR r).1)) (hl : le = Bs (letW r.le.data.toList)) : ((((T ++ ⟨#[114, 117, 108, 101]⟩) ++ a) ++ ⟨#[32]⟩) ++ le) ++ ⟨#[10]⟩ = Bs (textW (ls ++ [ruleW Lib.itoa (cnR r)])) := by
  rw [h, ha, hl, B_Bs, show (⟨#[114, 117, 108, 101]⟩ : ByteArray) = Bs [114, 117, 108, 101] from rfl, Bs_app, Bs_app, show (⟨#[32]⟩ : ByteArray) = Bs [32] from rfl, Bs_app, Bs_app, show (⟨#[10]⟩ : ByteArray) = Bs [10] from rfl, Bs_app, text_snoc]
  unfold ruleW
  rw [line_flat, flat_nums]
  congr 1; unfold wRule cnR; simp
theorem step_era2 {T : ByteArray} {ls : List (List Bt)} {x : Er} {a b : ByteArray} (h : T = Bs (textW ls)) (ha : a = B (numsL (cnE x).1)) (hb : b = B (numsL [x.til])) : ((((T ++ ⟨#[101, 114, 97]⟩) ++ a) ++ ⟨#[32]⟩) ++ x.fmt) ++ b ++ ⟨#[10]⟩ = Bs (textW (ls ++ [eraW Lib.itoa (cnE x)])) := by
  rw [h, ha, hb, B_Bs, B_Bs, show (⟨#[101, 114, 97]⟩ : ByteArray) = Bs [101, 114, 97] from rfl, Bs_app, Bs_app, show (⟨#[32]⟩ : ByteArray) = Bs [32] from rfl, Bs_app, Bs_data, Bs_app, show (⟨#[10]⟩ : ByteArray) = Bs [10] from rfl, Bs_app, text_snoc]
  unfold eraW
  rw [line_flat, flat_nums]
  congr 1; unfold wEra cnE numsL; simp
end Gno

namespace Go.Proofs.YthhjgndaiimgjaaGreatDoor
open Go.RowKit Gno
theorem shown_rule {c : Cn} {ls : List (List Bt)} {l : List Rl} {i : Nat} {r : Rl} (h : l[i]? = some r) : ls ++ (l.take (i + 1)).map (fun r => ruleW Lib.itoa (cnR r)) = (ls ++ (l.take i).map (fun r => ruleW Lib.itoa (cnR r))) ++ [ruleW Lib.itoa (cnR r)] := by
  rw [map_take' _ h, List.append_assoc]
theorem shown_era {c : Cn} {ls : List (List Bt)} {l : List Er} {i : Nat} {x : Er} (h : l[i]? = some x) : ls ++ (l.take (i + 1)).map (fun x => eraW Lib.itoa (cnE x)) = (ls ++ (l.take i).map (fun x => eraW Lib.itoa (cnE x))) ++ [eraW Lib.itoa (cnE x)] := by
  rw [map_take' _ h, List.append_assoc]
theorem shownS_all {d : Dt} {k : Nat} {s : St} (h : d.ss[k]? = some s) : shownS Lib.itoa (cnOf d) (k + 1) = (shownS Lib.itoa (cnOf d) k ++ [[wSet, s.name.data.toList]]) ++ s.rs.map (fun r => ruleW Lib.itoa (cnR r)) := by
  rw [shownS_next (s := cnS s) (by show (d.ss.map cnS)[k]? = _; rw [List.getElem?_map, h]; rfl)]
  unfold cnS
  simp only [List.map_map]
  rfl
theorem shownZ_all {d : Dt} {k : Nat} {z : Zn} (h : d.zs[k]? = some z) : shownZ Lib.itoa (cnOf d) (k + 1) = (shownZ Lib.itoa (cnOf d) k ++ [[wZone, z.name.data.toList]]) ++ z.es.map (fun x => eraW Lib.itoa (cnE x)) := by
  rw [shownZ_next (z := cnZ z) (by show (d.zs.map cnZ)[k]? = _; rw [List.getElem?_map, h]; rfl)]
  unfold cnZ
  simp only [List.map_map]
  rfl
theorem shownL_all {d : Dt} {k : Nat} {l : Lk} (h : d.ls[k]? = some l) : shownL Lib.itoa (cnOf d) (k + 1) = shownL Lib.itoa (cnOf d) k ++ [[wLink, l.name.data.toList, l.to.data.toList]] := by
  rw [shownL_next (l := cnL l) (by show (d.ls.map cnL)[k]? = _; rw [List.getElem?_map, h]; rfl)]
  rfl
theorem nums8 (a b c d e f g h : Int) (hn : Num a ∧ Num b ∧ Num c ∧ Num d ∧ Num e ∧ Num f ∧ Num g ∧ Num h) (W : World) : Calls Tryz.prog 25 #[.slice (some ⟨W.heap.size, 0, none⟩) 8 8] (W.alloc (.cells #[.int .i64 a, .int .i64 b, .int .i64 c, .int .i64 d, .int .i64 e, .int .i64 f, .int .i64 g, .int .i64 h] 3)) fun e' w' => e' = .returned (.string (B (numsL [a, b, c, d, e, f, g, h]))) ∧ Below W.heap.size W w' := by
  refine (nums_any (some ⟨W.heap.size, 0, none⟩) 8 8 [a, b, c, d, e, f, g, h] _ (ints_laid W [a, b, c, d, e, f, g, h] 3 (by simp [maxLen])) (by decide) (fun x hx => ?_)).mono fun e' w' q => ⟨q.1, ((Below.refl W.heap.size W).alloc (Nat.le_refl _) _).trans (q.2.mono (by simp))⟩
  simp only [List.mem_cons, List.not_mem_nil, or_false] at hx
  obtain ⟨q1, q2, q3, q4, q5, q6, q7, q8⟩ := hn
  rcases hx with rfl | rfl | rfl | rfl | rfl | rfl | rfl | rfl <;> assumption
theorem nums8_size (a b c d e f g h : Int) (hn : Num a ∧ Num b ∧ Num c ∧ Num d ∧ Num e ∧ Num f ∧ Num g ∧ Num h) : (B (numsL [a, b, c, d, e, f, g, h])).size ≤ 176 := by
  have := numsL_size (l := [a, b, c, d, e, f, g, h]) (fun x hx => by
    simp only [List.mem_cons, List.not_mem_nil, or_false] at hx
    obtain ⟨q1, q2, q3, q4, q5, q6, q7, q8⟩ := hn
    rcases hx with rfl | rfl | rfl | rfl | rfl | rfl | rfl | rfl <;> assumption)
  simpa using this
theorem ints_in (w : World) (p : Nat) (l : List Int) (E : TypeId) (h : w.heap[p]? = some (.cells (l.map (Value.int .i64)).toArray E)) (hn : l.length ≤ maxLen) : IntsAt w w.heap.size (some ⟨p, 0, none⟩) l.length l :=
  ⟨rfl, hn, fun _ => ⟨p, 0, rfl, (Array.getElem?_eq_some_iff.1 h).1, fun i x hx => by
    show w.cell? ⟨p, 0 + i * 1, none⟩ = _
    rw [Nat.zero_add, Nat.mul_one]
    exact cell_of h (by simp [hx])⟩⟩
theorem nums3 (a b c : Int) (hn : Num a ∧ Num b ∧ Num c) (W : World) (p : Nat) (h : W.heap[p]? = some (.cells #[.int .i64 a, .int .i64 b, .int .i64 c] 3)) : Calls Tryz.prog 25 #[.slice (some ⟨p, 0, none⟩) 3 3] W fun e' w' => e' = .returned (.string (B (numsL [a, b, c]))) ∧ Below W.heap.size W w' := by
  refine nums_any (some ⟨p, 0, none⟩) 3 3 [a, b, c] _ (ints_in W p [a, b, c] 3 h (by simp [maxLen])) (by decide) (fun x hx => ?_)
  simp only [List.mem_cons, List.not_mem_nil, or_false] at hx
  obtain ⟨q1, q2, q3⟩ := hn
  rcases hx with rfl | rfl | rfl <;> assumption
theorem nums1 (a : Int) (hn : Num a) (W : World) (p : Nat) (h : W.heap[p]? = some (.cells #[.int .i64 a] 3)) : Calls Tryz.prog 25 #[.slice (some ⟨p, 0, none⟩) 1 1] W fun e' w' => e' = .returned (.string (B (numsL [a]))) ∧ Below W.heap.size W w' := by
  refine nums_any (some ⟨p, 0, none⟩) 1 1 [a] _ (ints_in W p [a] 3 h (by simp [maxLen])) (by decide) (fun x hx => ?_)
  simp only [List.mem_cons, List.not_mem_nil, or_false] at hx
  subst hx; exact hn
theorem nums3_size (a b c : Int) (hn : Num a ∧ Num b ∧ Num c) : (B (numsL [a, b, c])).size ≤ 66 := by
  have := numsL_size (l := [a, b, c]) (fun x hx => by
    simp only [List.mem_cons, List.not_mem_nil, or_false] at hx
    obtain ⟨q1, q2, q3⟩ := hn
    rcases hx with rfl | rfl | rfl <;> assumption)
  simpa using this
theorem nums1_size (a : Int) (hn : Num a) : (B (numsL [a])).size ≤ 22 := by
  have := numsL_size (l := [a]) (fun x hx => by
    simp only [List.mem_cons, List.not_mem_nil, or_false] at hx
    subst hx; exact hn)
  simpa using this
theorem heap_new {W : World} {o : Obj} {p : Nat} (h : W.heap.size = p) : (W.alloc o).heap[p]? = some o := h ▸ World.alloc_heap_new W o
theorem heap_drew {W : World} {o : Obj} {p : Nat} (h : W.heap[p]? = some o) : W.drew.heap[p]? = some o := h
theorem heap_old {W : World} {o q : Obj} {p : Nat} (h : W.heap[p]? = some o) : (W.alloc q).heap[p]? = some o := (Below.heap_alloc W q p (Array.getElem?_eq_some_iff.1 h).1).trans h
theorem heap_keep {W w : World} {o : Obj} {p : Nat} (hb : Below W.heap.size W w) (h : W.heap[p]? = some o) : w.heap[p]? = some o := (hb.block p (Array.getElem?_eq_some_iff.1 h).1).trans h
theorem allocOn {n : Nat} {a b : World} (h : Below n a b) (hn : n ≤ a.heap.size) (o : Obj) : Below n a (b.alloc o) := h.alloc (Nat.le_trans hn h.size) o
theorem goOn {n : Nat} {a b c : World} (h : Below n a b) (hn : n ≤ a.heap.size) (h2 : Below b.heap.size b c) : Below n a c := h.trans (h2.mono (Nat.le_trans hn h.size))
set_option maxHeartbeats 16000000 in
theorem dataText_any (d : Dt) (w : World) (hD : DataAt w w.heap.size d) (hK : ShowOk d) :
    Calls Tryz.prog 7 #[d.val] w fun e w' => e = .returned (.string (Bs (showC Lib.itoa (cnOf d)))) ∧ Below w.heap.size w w' := by
  have HD := Lib.hid hD
  have HK := Lib.hid hK
  have hs3 : d.sn ≤ 3 := hK.few.1
  have hz5 : d.zn ≤ 5 := hK.few.2.1
  have hl4 : d.ln ≤ 4 := hK.few.2.2
  have HSL : Hid (d.ss.length = d.sn ∧ d.zs.length = d.zn ∧ d.ls.length = d.ln) := Lib.hid ⟨hD.1.1, hD.2.1.1, hD.2.2.1.1⟩
  have N8 := Lib.hid nums8
  obtain ⟨R, hR⟩ : ∃ R, R = Bs (showC Lib.itoa (cnOf d)) := ⟨_, rfl⟩
  have HR := Lib.hid hR
  rw [← hR]
  have HX : Hid (∀ W, Below (w.heap.size + 1) (w.alloc (.cells #[.slice d.sA d.sn d.sc, .slice d.zA d.zn d.zc, .slice d.lA d.ln d.lc] 26)) W → Below w.heap.size w W ∧ W.cell? ⟨w.heap.size, 0, none⟩ = some (.slice d.sA d.sn d.sc) ∧ W.cell? ⟨w.heap.size, 1, none⟩ = some (.slice d.zA d.zn d.zc) ∧ W.cell? ⟨w.heap.size, 2, none⟩ = some (.slice d.lA d.ln d.lc)) := Lib.hid fun W h => by
    have h1 : Below w.heap.size w (w.alloc (.cells #[.slice d.sA d.sn d.sc, .slice d.zA d.zn d.zc, .slice d.lA d.ln d.lc] 26)) := (Below.refl _ _).alloc (Nat.le_refl _) _
    have k1 := (h.block w.heap.size (by omega)).trans (World.alloc_heap_new w _)
    exact ⟨h1.trans (h.mono (by omega)), cell_of k1 rfl, cell_of k1 rfl, cell_of k1 rfl⟩
  have HB0 : Hid (Below (w.heap.size + 1) (w.alloc (.cells #[.slice d.sA d.sn d.sc, .slice d.zA d.zn d.zc, .slice d.lA d.ln d.lc] 26)) (w.alloc (.cells #[.slice d.sA d.sn d.sc, .slice d.zA d.zn d.zc, .slice d.lA d.ln d.lc] 26))) := Lib.hid (Below.refl _ _)
  obtain ⟨W0, hW0⟩ : ∃ W0, W0 = (w.alloc (.cells #[.slice d.sA d.sn d.sc, .slice d.zA d.zn d.zc, .slice d.lA d.ln d.lc] 26)) := ⟨_, rfl⟩
  have HZ0 : Hid (W0.heap.size = w.heap.size + 1) := Lib.hid (by rw [hW0]; simp)
  rw [← hW0] at HX HB0
  have z4 : (⟨#[115, 101, 116, 32]⟩ : ByteArray).size = 4 := rfl
  have z1 : (⟨#[10]⟩ : ByteArray).size = 1 := rfl
  have ze : (⟨#[101, 114, 97]⟩ : ByteArray).size = 3 := rfl
  have zl : (⟨#[108, 105, 110, 107, 32]⟩ : ByteArray).size = 5 := rfl
  have z5 : (⟨#[122, 111, 110, 101, 32]⟩ : ByteArray).size = 5 := rfl
  have z32 : (⟨#[32]⟩ : ByteArray).size = 1 := rfl
  have zr : (⟨#[114, 117, 108, 101]⟩ : ByteArray).size = 4 := rfl
  unfold Dt.val
  clear hD hK hR
  go_enter Tryz.func7, Tryz.ntmps7
  go_upto_region 1 with fail
  rw [← hW0]
  clear hW0
  obtain ⟨_, x0, x1, x2⟩ := HX.out _ HB0.out
  go_wp2_with fail
  clear x0 x1 x2
  go_loopw [3, 4] (fun b3 b4 wr => ∃ (k : Nat) (S : ByteArray), k ≤ d.sn ∧ b4 = .int .i64 k ∧ b3 = .string S ∧ S.size ≤ 1000 * k ∧ Hid (S = Bs (textW (shownS Lib.itoa (cnOf d) k))) ∧ Hid (Below (w.heap.size + 1) W0 wr)) (fun _ b4 _ => d.sn - (intOf b4).toNat)
  case atStart => exact ⟨0, ⟨#[]⟩, Nat.zero_le _, rfl, rfl, Nat.le_refl _, Lib.hid rfl, HB0⟩
  case round =>
    clear HB0
    obtain ⟨k, S, hk, rfl, rfl, hS, hE, hb⟩ := hrel
    obtain ⟨hbw, x0, x1, x2⟩ := HX.out _ hb.out
    by_cases hlt : k < d.sn
    · obtain ⟨b, o, s, hA, hbB, hs, _, hcell⟩ := sets_get HD.out.1 hlt
      obtain ⟨hsn, hnm, hrr⟩ := HK.out.sets s (List.mem_of_getElem? hs)
      have HRR := Lib.hid hrr
      have HC := Lib.hid hcell
      have hin := (hcell w (Below.refl _ _)).2
      have HIN := Lib.hid hin
      have HRL : Hid (s.rs.length = s.n) := Lib.hid hin.1
      have HS1 := Lib.hid (step_set (nm := s.name) hE.out)
      have HSA := Lib.hid (shownS_all hs)
      obtain ⟨⟨e0, e1⟩, _⟩ := hcell _ hbw
      rw [hA] at x0
      have HA := Lib.hid hA
      clear hin hcell hrr hs hE hbw hA
      go_upto_region 6 with fail
      obtain ⟨S1, hS1⟩ : ∃ S1, S1 = ((S ++ ⟨#[115, 101, 116, 32]⟩) ++ s.name) ++ ⟨#[10]⟩ := ⟨_, rfl⟩
      have hS1z : S1.size ≤ 1000 * k + 20 := by rw [hS1]; simp only [ByteArray.size_append, z4, z1]; omega
      rw [← hS1] at HS1
      try rw [← hS1]
      clear hS1
      go_wp2_with fail
      clear x0 x1 x2 e0 e1
      go_loopw [3, 5] (fun b3 b5 wr => ∃ (i : Nat) (T : ByteArray), i ≤ s.n ∧ b5 = .int .i64 i ∧ b3 = .string T ∧ T.size ≤ 1000 * k + 20 + 210 * i ∧ Hid (T = Bs (textW ((shownS Lib.itoa (cnOf d) k ++ [[wSet, s.name.data.toList]]) ++ (s.rs.take i).map (fun r => ruleW Lib.itoa (cnR r))))) ∧ Hid (Below (w.heap.size + 1) W0 wr)) (fun _ b5 _ => s.n - (intOf b5).toNat)
      case atStart => exact ⟨0, S1, Nat.zero_le _, rfl, rfl, by omega, Lib.hid (HS1.out.trans (by rw [List.take_zero, List.map_nil, List.append_nil])), hb⟩
      case round =>
        clear HS1 hS1z hb
        obtain ⟨i, T, hi, rfl, rfl, hT, hE, hb⟩ := hrel
        obtain ⟨hbw, x0, x1, x2⟩ := HX.out _ hb.out
        obtain ⟨⟨e0, e1⟩, _⟩ := HC.out _ hbw
        rw [HA.out] at x0
        by_cases hit : i < s.n
        · obtain ⟨f, g, r, hA2, _, hr, _, hrc⟩ := RulesAt.get HIN.out hit
          obtain ⟨hn8, hle⟩ := HRR.out r (List.mem_of_getElem? hr)
          obtain ⟨r0, r1, r2, r3, r4, r5, r6, r7, r8⟩ := hrc _ hbw
          rw [hA2] at e1
          clear hA2
          obtain ⟨a, ha⟩ : ∃ a, a = B (numsL [r.fy, r.ty, r.mo, r.k, r.wk, r.d, r.a, r.sv]) := ⟨_, rfl⟩
          have haz : a.size ≤ 176 := by rw [ha]; exact nums8_size _ _ _ _ _ _ _ _ hn8
          have HNN := Lib.hid (fun W => N8.out r.fy r.ty r.mo r.k r.wk r.d r.a r.sv hn8 W)
          rw [← ha] at HNN
          have HSTEP : Hid (∀ le, le = Bs (letW r.le.data.toList) → ((((T ++ ⟨#[114, 117, 108, 101]⟩) ++ a) ++ ⟨#[32]⟩) ++ le) ++ ⟨#[10]⟩ = Bs (textW ((shownS Lib.itoa (cnOf d) k ++ [[wSet, s.name.data.toList]]) ++ (s.rs.take (i + 1)).map (fun r => ruleW Lib.itoa (cnR r))))) := Lib.hid fun le hl => by
            rw [shown_rule (c := cnOf d) hr]
            exact step_rule2 hE.out ha hl
          have z45 : (⟨#[45]⟩ : ByteArray).size = 1 := rfl
          have hwz : w.heap.size + 1 ≤ wr.heap.size := by have := hb.out.size; rw [HZ0.out] at this; exact this
          have HN1 : Hid (∀ le0 : ByteArray, Calls Tryz.prog 25 #[.slice (some ⟨wr.heap.size + 1, 0, none⟩) 8 8] ((wr.alloc (.cells #[.int .i64 r.fy, .int .i64 r.ty, .int .i64 r.mo, .int .i64 r.k, .int .i64 r.wk, .int .i64 r.d, .int .i64 r.a, .int .i64 r.sv, .string le0] 53)).alloc (.cells #[.int .i64 r.fy, .int .i64 r.ty, .int .i64 r.mo, .int .i64 r.k, .int .i64 r.wk, .int .i64 r.d, .int .i64 r.a, .int .i64 r.sv] 3)) fun e w' => e = .returned (.string a) ∧ Below (w.heap.size + 1) W0 w') := Lib.hid fun le0 => by
            have := HNN.out (wr.alloc (.cells #[.int .i64 r.fy, .int .i64 r.ty, .int .i64 r.mo, .int .i64 r.k, .int .i64 r.wk, .int .i64 r.d, .int .i64 r.a, .int .i64 r.sv, .string le0] 53))
            rw [World.size_alloc] at this
            exact this.mono fun e w' q => ⟨q.1, (hb.out.alloc hwz _).trans (q.2.mono (by omega))⟩
          clear ha hrc hr hbw hn8 hE HNN
          by_cases he : r.le = ⟨#[]⟩
          · have HT' := Lib.hid (HSTEP.out ⟨#[45]⟩ (by rw [he]; rfl))
            have he1 : (r.le.toList == ([] : List UInt8)) = true := by rw [he, Lib.toList_data]; rfl
            rw [he] at r8
            clear HSTEP hb
            go_upto_region 13 with fail
            clear x0 x1 x2 e0 e1 r0 r1 r2 r3 r4 r5 r6 r7 r8 he1
            go_wp2_with (go_at_call 25; refine (HN1.out _).mono ?_; rintro e w1 ⟨rfl, hb1⟩)
            go_roundw
            case rel => exact ⟨i + 1, _, by omega, by go_num, rfl, by simp only [ByteArray.size_append, zr, z32, z45, z1]; omega, HT', Lib.hid hb1⟩
            case measure => simp [intOf] <;> omega
          · have hne : r.le.data.toList ≠ [] := fun e => he (by rw [← Bs_list r.le, e]; rfl)
            have HT' := Lib.hid (HSTEP.out r.le (by unfold letW; rw [if_neg hne, Bs_list]))
            have he1 : (r.le.toList == ([] : List UInt8)) = false := by rw [Lib.toList_data]; exact beq_eq_false_iff_ne.2 hne
            clear HSTEP hb hne
            go_upto_region 13 with fail
            clear x0 x1 x2 e0 e1 r0 r1 r2 r3 r4 r5 r6 r7 r8 he1
            go_wp2_with (go_at_call 25; refine (HN1.out _).mono ?_; rintro e w1 ⟨rfl, hb1⟩)
            go_roundw
            case rel => exact ⟨i + 1, _, by omega, by go_num, rfl, by simp only [ByteArray.size_append, zr, z32, z1]; omega, HT', Lib.hid hb1⟩
            case measure => simp [intOf] <;> omega
        · have HN : Hid (T = Bs (textW (shownS Lib.itoa (cnOf d) (k + 1)))) := Lib.hid (by rw [hE.out, HSA.out, List.take_of_length_le (by rw [HRL.out]; omega)])
          have hTz : T.size ≤ 1000 * (k + 1) := by omega
          clear hE
          go_wp2_with fail
          go_roundw
          case rel => exact ⟨k + 1, T, by omega, by go_num, rfl, hTz, HN, hb⟩
          case measure => simp [intOf] <;> omega
    · have HS0 : Hid (S = Bs (textW (shownZ Lib.itoa (cnOf d) 0))) := Lib.hid (by rw [hE.out, shownS_end (by show (d.ss.map cnS).length ≤ k; rw [List.length_map, HSL.out.1]; omega)])
      have hSz : S.size ≤ 3000 := by omega
      have HB1 := hb
      clear hE hbw hb hS
      go_wp2_with fail
      clear x0 x1 x2
      go_loopw [3, 8] (fun b3 b8 wr => ∃ (k : Nat) (S : ByteArray), k ≤ d.zn ∧ b8 = .int .i64 k ∧ b3 = .string S ∧ S.size ≤ 3000 + 1000 * k ∧ Hid (S = Bs (textW (shownZ Lib.itoa (cnOf d) k))) ∧ Hid (Below (w.heap.size + 1) W0 wr)) (fun _ b8 _ => d.zn - (intOf b8).toNat)
      case atStart => exact ⟨0, S, Nat.zero_le _, rfl, rfl, by omega, HS0, HB1⟩
      case round =>
        clear HB1 HS0 hSz
        obtain ⟨k, S, hk, rfl, rfl, hS, hE, hb⟩ := hrel
        obtain ⟨hbw, x0, x1, x2⟩ := HX.out _ hb.out
        by_cases hlt : k < d.zn
        · obtain ⟨b, o, s, hA, hbB, hs, _, hcell⟩ := zones_get HD.out.2.1 hlt
          obtain ⟨hsn, hnm, hrr⟩ := HK.out.zones s (List.mem_of_getElem? hs)
          have HRR := Lib.hid hrr
          have HC := Lib.hid hcell
          have hin := (hcell w (Below.refl _ _)).2
          have HIN := Lib.hid hin
          have HRL : Hid (s.es.length = s.n) := Lib.hid hin.1
          have HS1 := Lib.hid (step_zone (nm := s.name) hE.out)
          have HSA := Lib.hid (shownZ_all hs)
          obtain ⟨⟨e0, e1⟩, _⟩ := hcell _ hbw
          rw [hA] at x1
          have HA := Lib.hid hA
          clear hin hcell hrr hs hE hbw hA
          go_upto_region 18 with fail
          obtain ⟨S1, hS1⟩ : ∃ S1, S1 = ((S ++ ⟨#[122, 111, 110, 101, 32]⟩) ++ s.name) ++ ⟨#[10]⟩ := ⟨_, rfl⟩
          have hS1z : S1.size ≤ 3000 + 1000 * k + 20 := by rw [hS1]; simp only [ByteArray.size_append, z5, z1]; omega
          rw [← hS1] at HS1
          try rw [← hS1]
          clear hS1
          go_wp2_with fail
          clear x0 x1 x2 e0 e1
          go_loopw [3, 9] (fun b3 b9 wr => ∃ (i : Nat) (T : ByteArray), i ≤ s.n ∧ b9 = .int .i64 i ∧ b3 = .string T ∧ T.size ≤ 3000 + 1000 * k + 20 + 210 * i ∧ Hid (T = Bs (textW ((shownZ Lib.itoa (cnOf d) k ++ [[wZone, s.name.data.toList]]) ++ (s.es.take i).map (fun x => eraW Lib.itoa (cnE x))))) ∧ Hid (Below (w.heap.size + 1) W0 wr)) (fun _ b9 _ => s.n - (intOf b9).toNat)
          case atStart => exact ⟨0, S1, Nat.zero_le _, rfl, rfl, by omega, Lib.hid (HS1.out.trans (by rw [List.take_zero, List.map_nil, List.append_nil])), hb⟩
          case round =>
            clear HS1 hS1z hb
            obtain ⟨i, T, hi, rfl, rfl, hT, hE, hb⟩ := hrel
            obtain ⟨hbw, x0, x1, x2⟩ := HX.out _ hb.out
            obtain ⟨⟨e0, e1⟩, _⟩ := HC.out _ hbw
            rw [HA.out] at x1
            by_cases hit : i < s.n
            · obtain ⟨f, g, x, hA2, _, hr, _, hrc⟩ := eras_get HIN.out hit
              obtain ⟨hn4, hle⟩ := HRR.out x (List.mem_of_getElem? hr)
              obtain ⟨r0, r1, r2, r3, r4⟩ := hrc _ hbw
              rw [hA2] at e1
              obtain ⟨a, ha⟩ : ∃ a, a = B (numsL [x.std, x.set, x.save]) := ⟨_, rfl⟩
              obtain ⟨c, hc⟩ : ∃ c, c = B (numsL [x.til]) := ⟨_, rfl⟩
              have haz : a.size ≤ 66 := by rw [ha]; exact nums3_size _ _ _ ⟨hn4.1, hn4.2.1, hn4.2.2.1⟩
              have hcz : c.size ≤ 22 := by rw [hc]; exact nums1_size _ hn4.2.2.2
              have hwz : w.heap.size + 1 ≤ wr.heap.size := by have := hb.out.size; rw [HZ0.out] at this; exact this
              have HN3 := Lib.hid (nums3 x.std x.set x.save ⟨hn4.1, hn4.2.1, hn4.2.2.1⟩)
              have HN1 := Lib.hid (nums1 x.til hn4.2.2.2)
              rw [← ha] at HN3
              rw [← hc] at HN1
              have HT' : Hid (((((T ++ ⟨#[101, 114, 97]⟩) ++ a) ++ ⟨#[32]⟩) ++ x.fmt) ++ c ++ ⟨#[10]⟩ = Bs (textW ((shownZ Lib.itoa (cnOf d) k ++ [[wZone, s.name.data.toList]]) ++ (s.es.take (i + 1)).map (fun x => eraW Lib.itoa (cnE x))))) := Lib.hid (by
                rw [shown_era (c := cnOf d) hr]
                exact step_era2 hE.out ha hc)
              have HU : Hid (∀ W, Below (wr.heap.size + 1) (wr.alloc (.cells #[.int .i64 x.std, .int .i64 x.set, .int .i64 x.save, .string x.fmt, .int .i64 x.til] 59)) W → Below (w.heap.size + 1) W0 W ∧ W.cell? ⟨wr.heap.size, 0, none⟩ = some (.int .i64 x.std) ∧ W.cell? ⟨wr.heap.size, 1, none⟩ = some (.int .i64 x.set) ∧ W.cell? ⟨wr.heap.size, 2, none⟩ = some (.int .i64 x.save) ∧ W.cell? ⟨wr.heap.size, 3, none⟩ = some (.string x.fmt) ∧ W.cell? ⟨wr.heap.size, 4, none⟩ = some (.int .i64 x.til)) := Lib.hid fun W h => by
                have k1 := (h.block wr.heap.size (by omega)).trans (World.alloc_heap_new wr _)
                exact ⟨(hb.out.alloc hwz _).trans (h.mono (by omega)), cell_of k1 rfl, cell_of k1 rfl, cell_of k1 rfl, cell_of k1 rfl, cell_of k1 rfl⟩
              obtain ⟨U, hU⟩ : ∃ U, U = wr.alloc (.cells #[.int .i64 x.std, .int .i64 x.set, .int .i64 x.save, .string x.fmt, .int .i64 x.til] 59) := ⟨_, rfl⟩
              have hUz : U.heap.size = wr.heap.size + 1 := by rw [hU]; simp
              rw [← hU] at HU
              obtain ⟨p, hp⟩ : ∃ p, p = wr.heap.size := ⟨_, rfl⟩
              rw [← hp] at HU hUz
              have q1 : ¬ (9223372036854775807 < T.size + 3) := by omega
              have q2 : ¬ (9223372036854775807 < T.size + 3 + a.size) := by omega
              have q3 : ¬ (9223372036854775807 < T.size + 3 + a.size + 1) := by omega
              have q4 : ¬ (9223372036854775807 < T.size + 3 + a.size + 1 + x.fmt.size) := by omega
              have q5 : ¬ (9223372036854775807 < T.size + 3 + a.size + 1 + x.fmt.size + c.size) := by omega
              have q6 : ¬ (9223372036854775807 < T.size + 3 + a.size + 1 + x.fmt.size + c.size + 1) := by omega
              have q7 : (T ++ ⟨#[101, 114, 97]⟩ ++ a ++ ⟨#[32]⟩ ++ x.fmt ++ c ++ ⟨#[10]⟩).size ≤ 3000 + 1000 * k + 20 + 210 * (i + 1) := by simp only [ByteArray.size_append, ze, z32, z1]; omega
              clear ha hc hrc hr hbw hn4 hE hA2 hle
              go_upto_region 22 with fail
              rw [← hU]
              clear x0 x1 x2 e0 e1 r0 r1 r2 r3 r4 hU hb hwz
              try rw [← hp]
              clear hp
              have HD0 : Hid (Below (p + 1) U U.drew) := Lib.hid (Below.refl _ _).drew
              have HDZ : Hid (U.drew.heap.size = p + 1) := Lib.hid hUz
              have HKEEP : Hid (∀ W, Below (p + 1) U W → Below (p + 1) U W ∧ W.cell? ⟨p, 0, none⟩ = some (.int .i64 x.std) ∧ W.cell? ⟨p, 1, none⟩ = some (.int .i64 x.set) ∧ W.cell? ⟨p, 2, none⟩ = some (.int .i64 x.save) ∧ W.cell? ⟨p, 3, none⟩ = some (.string x.fmt) ∧ W.cell? ⟨p, 4, none⟩ = some (.int .i64 x.til)) := Lib.hid fun W h => ⟨h, (HU.out W h).2⟩
              obtain ⟨_, c0, c1, c2, c3, c4⟩ := HU.out _ HD0.out
              go_region_held3 (fun w' => Below (p + 1) U w' ∧ w'.cell? ⟨p, 0, none⟩ = some (.int .i64 x.std) ∧ w'.cell? ⟨p, 1, none⟩ = some (.int .i64 x.set) ∧ w'.cell? ⟨p, 2, none⟩ = some (.int .i64 x.save) ∧ w'.cell? ⟨p, 3, none⟩ = some (.string x.fmt) ∧ w'.cell? ⟨p, 4, none⟩ = some (.int .i64 x.til))
                (first | (refine HKEEP.out _ ?_; repeat (first | with_reducible assumption | with_reducible exact HD0.out | with_reducible exact Below.refl _ _ | with_reducible refine Below.drew ?_ | with_reducible refine allocOn ?_ (Nat.le_of_eq hUz.symm) _)))
                (first
                  | (go_at_call 25; with_reducible refine (HN3.out _ _ ?hp).mono ?_; (case hp => repeat (first | with_reducible assumption | (with_reducible refine heap_new ?_; first | with_reducible rfl | exact hUz | (simp [hUz]; done)) | with_reducible refine heap_drew ?_ | with_reducible refine heap_old ?_ | with_reducible refine heap_keep HB5.out ?_)); rintro e w5 ⟨rfl, hb5'⟩; have hb5 : Below (p + 1) U w5 := goOn (by repeat (first | with_reducible assumption | with_reducible exact HD0.out | with_reducible exact Below.refl _ _ | with_reducible refine Below.drew ?_ | with_reducible refine allocOn ?_ (Nat.le_of_eq hUz.symm) _)) (Nat.le_of_eq hUz.symm) hb5'; have HB5 := Lib.hid hb5'; clear hb5' c0 c1 c2 c3 c4; obtain ⟨_, c0, c1, c2, c3, c4⟩ := HU.out _ hb5)
                  | (go_at_call 25; with_reducible refine (HN1.out _ _ ?hp).mono ?_; (case hp => repeat (first | with_reducible assumption | (with_reducible refine heap_new ?_; first | with_reducible rfl | exact hUz | (simp [hUz]; done)) | with_reducible refine heap_drew ?_ | with_reducible refine heap_old ?_ | with_reducible refine heap_keep HB5.out ?_)); rintro e w6 ⟨rfl, hb6'⟩; have hb6 : Below (p + 1) U w6 := goOn (by repeat (first | with_reducible assumption | with_reducible exact HD0.out | with_reducible exact Below.refl _ _ | with_reducible refine Below.drew ?_ | with_reducible refine allocOn ?_ (Nat.le_of_eq hUz.symm) _)) (Nat.le_of_eq hUz.symm) hb6'; clear hb6' c0 c1 c2 c3 c4; obtain ⟨_, c0, c1, c2, c3, c4⟩ := HU.out _ hb6))
              all_goals
                go_wp2_with fail
                go_roundw
                case rel => exact ⟨i + 1, _, by omega, by go_num, rfl, q7, HT', Lib.hid (HU.out _ hb6).1⟩
                case measure => simp [intOf] <;> omega
            · have HN : Hid (T = Bs (textW (shownZ Lib.itoa (cnOf d) (k + 1)))) := Lib.hid (by rw [hE.out, HSA.out, List.take_of_length_le (by rw [HRL.out]; omega)])
              have hTz : T.size ≤ 3000 + 1000 * (k + 1) := by omega
              clear hE
              go_wp2_with fail
              go_roundw
              case rel => exact ⟨k + 1, T, by omega, by go_num, rfl, hTz, HN, hb⟩
              case measure => simp [intOf] <;> omega
        · have HS0 : Hid (S = Bs (textW (shownL Lib.itoa (cnOf d) 0))) := Lib.hid (by rw [hE.out, shownZ_end (by show (d.zs.map cnZ).length ≤ k; rw [List.length_map, HSL.out.2.1]; omega)])
          have hSz : S.size ≤ 8000 := by omega
          have HB1 := hb
          clear hE hbw hb hS
          go_wp2_with fail
          clear x0 x1 x2
          go_loopw [3, 11] (fun b3 b11 wr => ∃ (k : Nat) (S : ByteArray), k ≤ d.ln ∧ b11 = .int .i64 k ∧ b3 = .string S ∧ S.size ≤ 8000 + 1000 * k ∧ Hid (S = Bs (textW (shownL Lib.itoa (cnOf d) k))) ∧ Hid (Below (w.heap.size + 1) W0 wr)) (fun _ b11 _ => d.ln - (intOf b11).toNat)
          case atStart => exact ⟨0, S, Nat.zero_le _, rfl, rfl, by omega, HS0, HB1⟩
          case round =>
            clear HB1 HS0 hSz
            obtain ⟨k, S, hk, rfl, rfl, hS, hE, hb⟩ := hrel
            obtain ⟨hbw, x0, x1, x2⟩ := HX.out _ hb.out
            by_cases hlt : k < d.ln
            · obtain ⟨b, o, s, hA, hbB, hs, _, _, hcell⟩ := links_get HD.out.2.2.1 hlt
              obtain ⟨hn1, hn2⟩ := HK.out.links s (List.mem_of_getElem? hs)
              have HS1 := Lib.hid (step_link (a := s.name) (b := s.to) hE.out)
              rw [← shownL_all hs] at HS1
              obtain ⟨e0, e1⟩ := hcell _ hbw
              have q1 : ¬ (9223372036854775807 < S.size + 5) := by omega
              have q2 : ¬ (9223372036854775807 < S.size + 5 + s.name.size) := by omega
              have q3 : ¬ (9223372036854775807 < S.size + 5 + s.name.size + 1) := by omega
              have q4 : ¬ (9223372036854775807 < S.size + 5 + s.name.size + 1 + s.to.size) := by omega
              have q5 : ¬ (9223372036854775807 < S.size + 5 + s.name.size + 1 + s.to.size + 1) := by omega
              have q6 : ((((S ++ ⟨#[108, 105, 110, 107, 32]⟩) ++ s.name) ++ ⟨#[32]⟩) ++ s.to ++ ⟨#[10]⟩).size ≤ 8000 + 1000 * (k + 1) := by simp only [ByteArray.size_append, zl, z32, z1]; omega
              rw [hA] at x2
              clear hA hs hcell hE hbw hbB
              go_upto_region 26 with fail
              go_quiet (fail)
              clear x0 x1 x2 e0 e1
              go_wp2_with fail
              go_roundw
              case rel => exact ⟨k + 1, _, by omega, by go_num, rfl, q6, HS1, Lib.hid (below_drewN hb.out _)⟩
              case measure => simp [intOf] <;> omega
            · have HE : Hid (R = S) := Lib.hid (by rw [HR.out, hE.out, shownL_end (by show (d.ls.map cnL).length ≤ k; rw [List.length_map, HSL.out.2.2]; omega)]; rfl)
              have HF := Lib.hid hbw
              clear hE hbw
              go_wp2
              go_ret
              exact ⟨retO_str HE.out.symm, HF.out⟩
end Go.Proofs.YthhjgndaiimgjaaGreatDoor
end
/-! Plain: what holds at a time, of right data. -/
section
set_option linter.unusedVariables false
set_option linter.unusedSimpArgs false
namespace Gno
open Go
def noSave (r : Rl) : Bool := r.sv == 0
/-- which rule holds: the last that has begun; else the first that saves nothing; -1: none. -/
noncomputable def offK (rs : List Rl) (std t : Int) : Int := if 0 ≤ (latest rs std t).1 then (latest rs std t).1 else fst noSave rs 0
noncomputable def offRl (rs : List Rl) (std t : Int) : Option Rl := if offK rs std t < 0 then none else rs[(offK rs std t).toNat]?
noncomputable def offR (d : Dt) (x : Er) (t : Int) : Option Rl := if x.set < 0 then none else match d.ss[x.set.toNat]? with | some s => offRl s.rs x.std t | none => none
noncomputable def offSv (d : Dt) (x : Er) (t : Int) : Int := match offR d x t with | some r => r.sv | none => x.save
noncomputable def offLe (d : Dt) (x : Er) (t : Int) : ByteArray := match offR d x t with | some r => r.le | none => ⟨#[]⟩
def repl (s le : ByteArray) : ByteArray := if markN s < 0 then s else s.extract 0 (markN s).toNat ++ le ++ s.extract ((markN s).toNat + 2) s.size
noncomputable def offAb (d : Dt) (x : Er) (t : Int) : ByteArray := repl x.fmt (offLe d x t)
noncomputable def offTo (d : Dt) (x : Er) (t : Int) : Int := x.std + offSv d x t
/-- the era of a time. -/
def til (t : Int) (x : Er) : Bool := decide (t < x.til)
def eraK (es : List Er) (t : Int) : Int := fst (til t) es 0
theorem fst_is {α : Type} (p : α → Bool) : ∀ (l : List α) (k : Int), 0 ≤ k → 0 ≤ fst p l k → ∃ y, l[(fst p l k - k).toNat]? = some y ∧ p y = true
  | [], k, hk, h => by simp [fst] at h
  | a :: t, k, hk, h => by
    by_cases ha : p a = true
    · have e1 : fst p (a :: t) k = k := by show (if p a = true then k else fst p t (k + 1)) = k; rw [if_pos ha]
      rw [e1]
      exact ⟨a, by simp, ha⟩
    · have e1 : fst p (a :: t) k = fst p t (k + 1) := by show (if p a = true then k else fst p t (k + 1)) = _; rw [if_neg ha]
      rw [e1] at h ⊢
      obtain ⟨y, hy, hp⟩ := fst_is p t (k + 1) (by omega) h
      have hr : k + 1 ≤ fst p t (k + 1) := by rcases fst_range p t (k + 1) (by omega) with e | e <;> omega
      exact ⟨y, by rw [show (fst p t (k + 1) - k).toNat = (fst p t (k + 1) - (k + 1)).toNat + 1 by omega, List.getElem?_cons_succ]; exact hy, hp⟩
/-! what is right of data, more -/
structure RightE (d : Dt) : Prop extends Right d where
  rules : ∀ s ∈ d.ss, ∀ r ∈ s.rs, r.e = 0
  eras : ∀ z ∈ d.zs, ∀ i x, z.es[i]? = some x → eraOk d.sn x (aheadOf z.es i) = true
  ends : ∀ z ∈ d.zs, aheadOf z.es z.es.length = 1893456000
  fmts : ∀ z ∈ d.zs, ∀ x ∈ z.es, fmtOk x.fmt = true
theorem setsE_zero : ∀ {ss : List St}, setsE ss = 0 → ∀ s ∈ ss, firstE s.rs = 0
  | [], _, s, h => by cases h
  | a :: t, h, s, hs => by
    unfold setsE at h
    by_cases ha : firstE a.rs ≠ 0
    · rw [if_pos ha] at h; exact absurd h ha
    · rw [if_neg ha] at h
      rcases List.mem_cons.1 hs with rfl | hs
      · exact Classical.not_not.1 ha
      · exact setsE_zero h s hs
theorem aheads_mem {es : List Er} {i : Nat} {x : Er} (h : es[i]? = some x) : (x, aheadOf es i) ∈ aheads 0 es := by
  rw [aheads_split h, ← ahead_is]
  simp
theorem rightE_of {d : Dt} (h : dataE d = 0) : RightE d := by
  have hr := right_of h
  have h0 : manyD d = false := hr.many
  have h1 : dE1 d = 0 := by unfold dataE at h; rwa [if_neg (by rw [h0]; simp)] at h
  have h2 : dE2 d = 0 := by
    unfold dE1 at h1; split at h1
    · exact absurd h1 (by decide)
    · exact h1
  have h3 : dE3 d = 0 := by
    unfold dE2 at h2; split at h2
    · exact absurd h2 (by decide)
    · exact h2
  have h4 : dE4 d = 0 := by
    unfold dE3 at h3; split at h3
    · exact absurd h3 (by decide)
    · exact h3
  have h5 : dE5 d = 0 := by
    unfold dE4 at h4; split at h4
    · exact absurd h4 (by decide)
    · exact h4
  have hs : setsE d.ss = 0 := by
    unfold dE5 at h5; split at h5
    · exact h5
    · rename_i q; exact Classical.not_not.1 q
  have h6 : dE6 d = 0 := by unfold dE5 at h5; rwa [if_neg (by rw [hs]; simp)] at h5
  have he : (erasL d.zs).any (badE d) = false := by
    cases e : (erasL d.zs).any (badE d)
    · rfl
    · unfold dE6 at h6; rw [if_pos e] at h6; exact absurd h6 (by decide)
  have h7 : dE7 d = 0 := by unfold dE6 at h6; rwa [if_neg (by rw [he]; simp)] at h6
  have hn : anyI (fun _ => badEnd) d.zs = false := by
    cases e : anyI (fun _ => badEnd) d.zs
    · rfl
    · unfold dE7 at h7; rw [if_pos e] at h7; exact absurd h7 (by decide)
  have h8 : dE8 d = 0 := by unfold dE7 at h7; rwa [if_neg (by rw [hn]; simp)] at h7
  have hf : (erasL d.zs).any badF = false := by
    cases e : (erasL d.zs).any badF
    · rfl
    · unfold dE8 at h8; rw [if_pos e] at h8; exact absurd h8 (by decide)
  rw [List.any_eq_false] at he hf
  rw [anyI_any, List.any_eq_false] at hn
  have mem : ∀ z ∈ d.zs, ∀ i x, z.es[i]? = some x → (x, aheadOf z.es i) ∈ erasL d.zs := fun z hz i x hx => List.mem_flatMap.2 ⟨z, hz, aheads_mem hx⟩
  refine { toRight := hr, rules := fun s hs' => firstE_zero (setsE_zero hs s hs'), eras := fun z hz i x hx => ?_, ends := fun z hz => ?_, fmts := fun z hz x hx => ?_ }
  · have := he _ (mem z hz i x hx)
    unfold badE at this
    simpa using this
  · have := hn z hz
    unfold badEnd at this
    simpa using this
  · obtain ⟨i, hi⟩ := List.getElem?_of_mem hx
    have := hf _ (mem z hz i x hi)
    unfold badF at this
    simpa using this
theorem eraOk_is {ns : Int} {x : Er} {ah : Int} (h : eraOk ns x ah = true) : (-50400 ≤ x.std ∧ x.std ≤ 50400) ∧ (-1 ≤ x.set ∧ x.set < ns) ∧ (0 ≤ x.save ∧ x.save ≤ 7200) ∧ (x.set < 0 ∨ x.save = 0) ∧ ah < x.til := by
  unfold eraOk at h
  simpa [and_assoc] using h
theorem ahead_last {es : List Er} (h : 0 < es.length) : ∃ x, es[es.length - 1]? = some x ∧ aheadOf es es.length = x.til := by
  obtain ⟨n, hn⟩ : ∃ n, es.length = n + 1 := ⟨es.length - 1, by omega⟩
  have hx := List.getElem?_eq_getElem (l := es) (i := n) (by omega)
  refine ⟨es[n]'(by omega), by rw [show es.length - 1 = n by omega]; exact hx, ?_⟩
  have key : ∀ m, m = n + 1 → aheadOf es m = (es[n]'(by omega)).til := by
    rintro _ rfl
    simp only [aheadOf]
    rw [hx]
  exact key _ hn
/-- a time that there is has its era. -/
theorem RightE.era {d : Dt} (h : RightE d) {z : Zn} (hz : z ∈ d.zs) {t : Int} (h1 : t < 1893456000) :
    ∃ x, z.es[(eraK z.es t).toNat]? = some x ∧ x ∈ z.es ∧ 0 ≤ eraK z.es t ∧ eraK z.es t < z.es.length ∧ t < x.til := by
  have he := h.ends z hz
  have hpos : 0 < z.es.length := by
    rcases Nat.eq_zero_or_pos z.es.length with q | q
    · rw [q] at he; simp [aheadOf] at he
    · exact q
  obtain ⟨x, hx, hxe⟩ := ahead_last hpos
  have hnn : 0 ≤ eraK z.es t := (fst_nn (til t) z.es 0 (by omega)).2 ⟨x, List.mem_of_getElem? hx, by unfold til; simp; omega⟩
  have hr : eraK z.es t < z.es.length := by
    rcases fst_range (til t) z.es 0 (by omega) with e | e
    · unfold eraK; omega
    · unfold eraK; omega
  have hq := List.getElem?_eq_getElem (l := z.es) (i := (eraK z.es t).toNat) (by omega)
  refine ⟨_, hq, List.mem_of_getElem? hq, hnn, hr, ?_⟩
  have := fst_is (til t) z.es 0 (by omega) (show 0 ≤ fst (til t) z.es 0 from hnn)
  obtain ⟨y, hy, hp⟩ := this
  have e : (fst (til t) z.es 0 - 0).toNat = (eraK z.es t).toNat := by unfold eraK; congr 1; omega
  rw [e, hq] at hy
  injection hy with hy
  subst hy
  simpa [til] using hp
end Gno
end
/-! Plain: right data can be shown: their words have no blanks and no line ends, their numbers are small, their letters no dash. -/
section
set_option linter.unusedVariables false
set_option linter.unusedSimpArgs false
namespace Gno
open Go Go.RowKit Go.Proofs.YthhjgndaiimgjaaGreatDoor
theorem let_bytes {s : ByteArray} (h : allLet s = true) {b : UInt8} (hb : b ∈ s.data.toList) : isLet b.toNat = true := by
  unfold allLet at h
  exact List.all_eq_true.1 h b hb
theorem let_not {n : Nat} (h : isLet n = true) : n ≠ 32 ∧ n ≠ 10 ∧ n ≠ 45 := by
  refine ⟨?_, ?_, ?_⟩ <;> (rintro rfl; exact absurd h (by decide))
theorem nm_not {n : Nat} (h : isNm n = true) : n ≠ 32 ∧ n ≠ 10 := by
  refine ⟨?_, ?_⟩ <;> (rintro rfl; exact absurd h (by decide))
theorem name_bytes {s : ByteArray} (h : nameOk s = true) {b : UInt8} (hb : b ∈ s.data.toList) : isNm b.toNat = true := by
  unfold nameOk at h
  simp only [Bool.and_eq_true] at h
  have h2 := h.2.2.2
  unfold allNm at h2
  exact List.all_eq_true.1 h2 b hb
theorem fmt_bytes {s : ByteArray} (h : fmtOk s = true) {b : UInt8} (hb : b ∈ s.data.toList) : isLet b.toNat = true ∨ b = 37 ∨ b = 115 := by
  unfold fmtOk at h
  simp only [Bool.and_eq_true] at h
  have h2 := h.2
  rcases mark_cases s with hm | ⟨i, hm, hi⟩
  · rw [fmtIn_no hm] at h2
    exact .inl (let_bytes h2 hb)
  · rw [fmtIn_at hm, Bool.and_eq_true] at h2
    have hx : Lib.index s.data.toList [37, 115] = (i : Int) := hm
    rcases Lib.index_spec s.data.toList [37, 115] with ⟨e, _⟩ | ⟨j, e, hj, ho, _⟩
    · rw [hx] at e; omega
    · rw [hx] at e
      obtain rfl : i = j := by omega
      unfold Lib.occAt at ho
      obtain ⟨r, hr⟩ := List.isPrefixOf_iff_prefix.1 ho
      have h3 : s.data.toList = s.data.toList.take i ++ ([37, 115] ++ r) := by rw [hr, List.take_append_drop]
      have h4 : r = s.data.toList.drop (i + 2) := by
        have : s.data.toList.drop (i + 2) = (s.data.toList.drop i).drop 2 := by rw [List.drop_drop]
        rw [this, ← hr]; rfl
      rw [h3] at hb
      rcases List.mem_append.1 hb with hb | hb
      · refine .inl (let_bytes h2.1 ?_)
        rw [← Lib.toList_data, Lib.extract_toList]
        simpa using hb
      · rcases List.mem_append.1 hb with hb | hb
        · simp at hb; exact .inr hb
        · refine .inl (let_bytes h2.2 ?_)
          rw [← Lib.toList_data, Lib.extract_toList, ← h4, List.take_of_length_le]
          · exact hb
          · rw [h4, List.length_drop]
            show s.data.toList.length - (i + 2) ≤ s.size - (i + 2)
            have : s.data.toList.length = s.size := Array.length_toList
            omega
theorem b_32 {b : UInt8} (h : b.toNat ≠ 32) : b ≠ 32 := fun e => h (by rw [e]; rfl)
theorem b_10 {b : UInt8} (h : b.toNat ≠ 10) : b ≠ 10 := fun e => h (by rw [e]; rfl)
/-- the eras' ends. -/
theorem til_rise {d : Dt} (h : RightE d) {z : Zn} (hz : z ∈ d.zs) : ∀ (j i : Nat) (x y : Er), z.es[i]? = some x → z.es[j]? = some y → i < j → x.til < y.til
  | 0, i, x, y, _, _, hij => by omega
  | j + 1, i, x, y, hx, hy, hij => by
    have hj : j < z.es.length := by have := (List.getElem?_eq_some_iff.1 hy).1; omega
    have hq := List.getElem?_eq_getElem hj
    have h1 := (eraOk_is (h.eras z hz _ y hy)).2.2.2.2
    have e : aheadOf z.es (j + 1) = z.es[j].til := by simp only [aheadOf]; rw [hq]
    rw [e] at h1
    by_cases hi : i = j
    · subst hi
      rw [hq] at hx
      injection hx with hx
      rw [← hx]; exact h1
    · have := til_rise h hz j i x _ hx hq (by omega)
      omega
theorem til_small {d : Dt} (h : RightE d) {z : Zn} (hz : z ∈ d.zs) {i : Nat} {x : Er} (hx : z.es[i]? = some x) : 0 < x.til ∧ x.til ≤ 1893456000 := by
  have hi := (List.getElem?_eq_some_iff.1 hx).1
  have h0 := List.getElem?_eq_getElem (l := z.es) (i := 0) (by omega)
  have a0 := (eraOk_is (h.eras z hz 0 _ h0)).2.2.2.2
  have a0 : 0 < (z.es[0]'(by omega)).til := a0
  have hp : 0 < x.til := by
    by_cases hj : i = 0
    · subst hj
      rw [h0] at hx
      injection hx with hx
      rw [← hx]; exact a0
    · have := til_rise h hz i 0 _ _ h0 hx (by omega)
      omega
  obtain ⟨k, hk⟩ : ∃ k, z.es.length = k + 1 := ⟨z.es.length - 1, by omega⟩
  have hq := List.getElem?_eq_getElem (l := z.es) (i := k) (by omega)
  have he := h.ends z hz
  rw [hk] at he
  have e : aheadOf z.es (k + 1) = (z.es[k]'(by omega)).til := by simp only [aheadOf]; rw [hq]
  rw [e] at he
  refine ⟨hp, ?_⟩
  by_cases hl : i = k
  · subst hl
    rw [hq] at hx
    injection hx with hx
    rw [← hx]; omega
  · have := til_rise h hz k i x _ hx hq (by omega)
    omega
/-- all names are names. -/
theorem names_right {d : Dt} (h : dataE d = 0) {s : ByteArray} (hs : s ∈ allNames d) : nameOk s = true := by
  have h0 : manyD d = false := (right_of h).many
  have h1 : dE1 d = 0 := by unfold dataE at h; rwa [if_neg (by rw [h0]; simp)] at h
  have h2 : dE2 d = 0 := by
    unfold dE1 at h1; split at h1
    · exact absurd h1 (by decide)
    · exact h1
  have h3 : dE3 d = 0 := by
    unfold dE2 at h2; split at h2
    · exact absurd h2 (by decide)
    · exact h2
  cases hq : nameOk s
  · exfalso
    have hx : anyI (fun _ => badNm) (allNames d) = true := by
      rw [anyI_any, List.any_eq_true]
      exact ⟨s, hs, by unfold badNm; rw [hq]; rfl⟩
    unfold dE3 at h3
    rw [if_pos hx] at h3
    exact absurd h3 (by decide)
  · rfl
/-- what can be shown of right data. -/
theorem right_of_c {c : Cn} (h : okC c) : CnOk Lib.itoa pnI c ∧ CnOkR Lib.itoa sdI c ∧ Clean (linesC Lib.itoa c) := by
  obtain ⟨hf, h0⟩ := h
  have hr := rightE_of h0
  have rules : ∀ s ∈ c.ss, ∀ r ∈ s.2, r.1.length = 8 ∧ (∀ n ∈ r.1, -100000000000 < n ∧ n < 100000000000) ∧ r.2 ≠ [45] ∧ (∀ b ∈ r.2, b ≠ 32 ∧ b ≠ 10) := fun s hs r hrr => by
    have h8 := hf.1 s hs r hrr
    have e := hr.rules (stOf s) (List.mem_map.2 ⟨s, hs, rfl⟩) (rlOf r) (List.mem_map.2 ⟨r, hrr, rfl⟩)
    unfold Rl.e at e
    obtain ⟨u1, u2, e3, _⟩ := ruleE_zero e
    obtain ⟨l, b⟩ := r
    obtain ⟨a1, a2, a3, a4, a5, a6, a7, a8, rfl⟩ := list8 h8
    have e1 := (ruleBasic_iff _ _ _ _ _).1 u1
    have e2 := onE_ok u2
    clear u1 u2 e
    simp only [rlOf, List.getD_cons_zero, List.getD_cons_succ] at e1 e2 e3
    refine ⟨rfl, fun n hn => ?_, ?_, fun x hx => ?_⟩
    · simp only [List.mem_cons, List.not_mem_nil, or_false] at hn
      rcases hn with rfl | rfl | rfl | rfl | rfl | rfl | rfl | rfl <;> rcases e2 with q | q | q <;> omega
    · rintro rfl
      unfold letOk at e3
      rw [Bool.and_eq_true] at e3
      exact absurd e3.2 (by decide)
    · unfold letOk at e3
      rw [Bool.and_eq_true] at e3
      have := let_not (let_bytes e3.2 (b := x) hx)
      exact ⟨b_32 this.1, b_10 this.2.1⟩
  have eras : ∀ z ∈ c.zs, ∀ x ∈ z.2, x.1.length = 3 ∧ (∀ n ∈ x.1, -100000000000 < n ∧ n < 100000000000) ∧ (-100000000000 < x.2.2 ∧ x.2.2 < 100000000000) ∧ (∀ b ∈ x.2.1, b ≠ 32 ∧ b ≠ 10) := fun z hz x hx => by
    have h3 := hf.2 z hz x hx
    have hzm : znOf z ∈ (dtOf c).zs := List.mem_map.2 ⟨z, hz, rfl⟩
    obtain ⟨i, hi⟩ := List.getElem?_of_mem hx
    have hi2 : (znOf z).es[i]? = some (erOf x) := by show (z.2.map erOf)[i]? = _; rw [List.getElem?_map, hi]; rfl
    have e := eraOk_is (hr.eras _ hzm i _ hi2)
    have e2 := til_small hr hzm hi2
    have e3 := hr.fmts _ hzm _ (List.mem_of_getElem? hi2)
    have e4 : (dtOf c).sn ≤ 3 := (manyD_le hr.many).1
    obtain ⟨l, f, u⟩ := x
    obtain ⟨a1, a2, a3, rfl⟩ := list3 h3
    simp only [erOf, List.getD_cons_zero, List.getD_cons_succ] at e e2 e3
    refine ⟨rfl, fun n hn => ?_, ⟨by show -100000000000 < u; omega, by show u < 100000000000; omega⟩, fun b hb => ?_⟩
    · simp only [List.mem_cons, List.not_mem_nil, or_false] at hn
      rcases hn with rfl | rfl | rfl <;> omega
    · rcases fmt_bytes e3 (b := b) hb with q | rfl | rfl
      · have := let_not q
        exact ⟨b_32 this.1, b_10 this.2.1⟩
      · decide
      · decide
  have nameB : ∀ l : Bt, Bs l ∈ allNames (dtOf c) → ∀ b ∈ l, b ≠ 32 ∧ b ≠ 10 := fun l hl b hb => by
    have := nm_not (name_bytes (names_right h0 hl) (b := b) hb)
    exact ⟨b_32 this.1, b_10 this.2⟩
  have n1 : ∀ s ∈ c.ss, ∀ b ∈ s.1, b ≠ 32 ∧ b ≠ 10 := fun s hs => nameB s.1 (by
    have : Bs s.1 ∈ sNames (dtOf c) := List.mem_map.2 ⟨stOf s, List.mem_map.2 ⟨s, hs, rfl⟩, rfl⟩
    unfold allNames; simp [this])
  have n2 : ∀ z ∈ c.zs, ∀ b ∈ z.1, b ≠ 32 ∧ b ≠ 10 := fun z hz => nameB z.1 (by
    have : Bs z.1 ∈ zNames (dtOf c) := List.mem_map.2 ⟨znOf z, List.mem_map.2 ⟨z, hz, rfl⟩, rfl⟩
    unfold allNames; simp [this])
  have n3 : ∀ l ∈ c.ls, (∀ b ∈ l.1, b ≠ 32 ∧ b ≠ 10) ∧ ∀ b ∈ l.2, b ≠ 32 ∧ b ≠ 10 := fun l hl => ⟨nameB l.1 (by
    have : Bs l.1 ∈ lNames (dtOf c) := List.mem_map.2 ⟨lkOf l, List.mem_map.2 ⟨l, hl, rfl⟩, rfl⟩
    unfold allNames; simp [this]), nameB l.2 (by
    have : Bs l.2 ∈ lTos (dtOf c) := List.mem_map.2 ⟨lkOf l, List.mem_map.2 ⟨l, hl, rfl⟩, rfl⟩
    unfold allNames; simp [this])⟩
  have num : ∀ n : Int, ∀ b ∈ Lib.itoa n, b ≠ 32 ∧ b ≠ 10 := fun n b hb => ⟨fun e => itoa_no (c := 32) (by decide) (e ▸ hb), fun e => itoa_no (c := 10) (by decide) (e ▸ hb)⟩
  have all : ∀ l ∈ linesC Lib.itoa c, l ≠ [] ∧ ∀ w ∈ l, ∀ b ∈ w, b ≠ 32 ∧ b ≠ 10 := fun l hl => by
    unfold linesC at hl
    rcases List.mem_append.1 hl with hl | hl
    · obtain ⟨s, hs, hl⟩ := List.mem_flatMap.1 hl
      unfold setW at hl
      rcases List.mem_cons.1 hl with rfl | hl
      · refine ⟨by simp, fun w hw => ?_⟩
        simp only [List.mem_cons, List.not_mem_nil, or_false] at hw
        rcases hw with rfl | rfl
        · decide
        · exact n1 s hs
      · obtain ⟨r, hrr, rfl⟩ := List.mem_map.1 hl
        obtain ⟨_, _, _, q⟩ := rules s hs r hrr
        refine ⟨by unfold ruleW; simp, fun w hw => ?_⟩
        unfold ruleW at hw
        rcases List.mem_cons.1 hw with rfl | hw
        · decide
        · rcases List.mem_append.1 hw with hw | hw
          · obtain ⟨n, _, rfl⟩ := List.mem_map.1 hw
            exact num n
          · obtain rfl := List.mem_singleton.1 hw
            unfold letW
            split
            · decide
            · exact q
    · rcases List.mem_append.1 hl with hl | hl
      · obtain ⟨z, hz, hl⟩ := List.mem_flatMap.1 hl
        unfold zoneW at hl
        rcases List.mem_cons.1 hl with rfl | hl
        · refine ⟨by simp, fun w hw => ?_⟩
          simp only [List.mem_cons, List.not_mem_nil, or_false] at hw
          rcases hw with rfl | rfl
          · decide
          · exact n2 z hz
        · obtain ⟨x, hx, rfl⟩ := List.mem_map.1 hl
          obtain ⟨_, _, _, q⟩ := eras z hz x hx
          refine ⟨by unfold eraW; simp, fun w hw => ?_⟩
          unfold eraW at hw
          rcases List.mem_cons.1 hw with rfl | hw
          · decide
          · rcases List.mem_append.1 hw with hw | hw
            · obtain ⟨n, _, rfl⟩ := List.mem_map.1 hw
              exact num n
            · simp only [List.mem_cons, List.not_mem_nil, or_false] at hw
              rcases hw with rfl | rfl
              · exact q
              · exact num _
      · obtain ⟨k, hk, rfl⟩ := List.mem_map.1 hl
        refine ⟨by unfold linkW; simp, fun w hw => ?_⟩
        unfold linkW at hw
        simp only [List.mem_cons, List.not_mem_nil, or_false] at hw
        rcases hw with rfl | rfl | rfl
        · decide
        · exact (n3 k hk).1
        · exact (n3 k hk).2
  refine ⟨⟨fun s hs r hrr => ?_, fun z hz x hx => ?_⟩, ⟨fun s hs r hrr => ?_, fun z hz x hx => ?_⟩, ⟨fun l hl => (all l hl).1, fun l hl w hw hm => ((all l hl).2 w hw _ hm).1 rfl, fun l hl w hw hm => ((all l hl).2 w hw _ hm).2 rfl⟩⟩
  · obtain ⟨q1, q2, q3, _⟩ := rules s hs r hrr
    exact ⟨q1, fun n hn => pn_itoa (by have := q2 n hn; omega) (by have := q2 n hn; omega), q3⟩
  · obtain ⟨q1, q2, q3, _⟩ := eras z hz x hx
    exact ⟨q1, fun n hn => pn_itoa (by have := q2 n hn; omega) (by have := q2 n hn; omega), pn_itoa (by omega) (by omega)⟩
  · obtain ⟨q1, q2, q3, _⟩ := rules s hs r hrr
    exact ⟨q1, fun n hn => sd_itoa (q2 n hn).1 (q2 n hn).2, q3⟩
  · obtain ⟨q1, q2, q3, _⟩ := eras z hz x hx
    exact ⟨q1, fun n hn => sd_itoa (q2 n hn).1 (q2 n hn).2, sd_itoa q3.1 q3.2⟩
open Classical in
/-- what Read answers, and what the reference's DataFrom. -/
noncomputable def readC (s : Bt) : Option Cn := ansP Lib.itoa pnI okC s
open Classical in
theorem readC_ref (s : Bt) : readC s = ansR Lib.itoa sdI okC s := ans_same (fun c h => (right_of_c h).1) (fun c h => (right_of_c h).2.1) (fun c h => (right_of_c h).2.2) s
open Classical in
theorem readC_shown {c : Cn} (h : okC c) : readC (showC Lib.itoa c) = some c := ansP_shown (fun c h => (right_of_c h).1) (fun c h => (right_of_c h).2.2) h
open Classical in
theorem readC_some {s : Bt} {c : Cn} (h : readC s = some c) : okC c ∧ showC Lib.itoa c = s := ansP_some h
end Gno
end
/-! Plain: right data can be shown. -/
section
set_option linter.unusedVariables false
set_option linter.unusedSimpArgs false
namespace Gno
open Go Go.RowKit Go.Proofs.YthhjgndaiimgjaaGreatDoor
theorem eras_few3 {d : Dt} (h : dataE d = 0) {z : Zn} (hz : z ∈ d.zs) : z.n ≤ 4 := by
  have h0 : manyD d = false := (right_of h).many
  have h1 : dE1 d = 0 := by unfold dataE at h; rwa [if_neg (by rw [h0]; simp)] at h
  have h2 : dE2 d = 0 := by
    unfold dE1 at h1; split at h1
    · exact absurd h1 (by decide)
    · exact h1
  have h3 : anyI (fun _ => manyEras) d.zs = false := by
    cases e : anyI (fun _ => manyEras) d.zs
    · rfl
    · unfold dE2 at h2; rw [if_pos e] at h2; exact absurd h2 (by decide)
  rw [anyI_any, List.any_eq_false] at h3
  have := h3 z hz
  unfold manyEras at this
  simp at this
  omega
theorem rules_few3 {d : Dt} (h : dataE d = 0) {s : St} (hs : s ∈ d.ss) : s.n ≤ 4 := by
  have h0 : manyD d = false := (right_of h).many
  have h1 : dE1 d = 0 := by unfold dataE at h; rwa [if_neg (by rw [h0]; simp)] at h
  have h3 : anyI (fun _ => manyRules) d.ss = false := by
    cases e : anyI (fun _ => manyRules) d.ss
    · rfl
    · unfold dE1 at h1; rw [if_pos e] at h1; exact absurd h1 (by decide)
  rw [anyI_any, List.any_eq_false] at h3
  have := h3 s hs
  unfold manyRules at this
  simp at this
  omega
theorem name_size {s : ByteArray} (h : nameOk s = true) : s.size ≤ 12 := by
  unfold nameOk at h
  simp only [Bool.and_eq_true, decide_eq_true_eq] at h
  exact h.1.2
theorem showOk_of {d : Dt} (h : dataE d = 0) : ShowOk d := by
  have hr := rightE_of h
  have hf := manyD_le hr.many
  have nm : ∀ s, s ∈ allNames d → s.size ≤ 12 := fun s hs => name_size (names_right h hs)
  refine ⟨hf, fun s hs => ⟨rules_few3 h hs, nm _ ?_, fun r hrr => ?_⟩, fun z hz => ⟨eras_few3 h hz, nm _ ?_, fun x hx => ?_⟩, fun l hl => ⟨nm _ ?_, nm _ ?_⟩⟩
  · have : s.name ∈ sNames d := List.mem_map.2 ⟨s, hs, rfl⟩
    unfold allNames; simp [this]
  · have e := hr.rules s hs r hrr
    unfold Rl.e at e
    obtain ⟨u1, u2, e3, _⟩ := ruleE_zero e
    have e1 := (ruleBasic_iff _ _ _ _ _).1 u1
    have e2 := onE_ok u2
    have e4 : r.le.size ≤ 12 := by
      unfold letOk at e3
      rw [Bool.and_eq_true, decide_eq_true_eq] at e3
      exact e3.1
    clear u1 u2 e e3
    refine ⟨?_, e4⟩
    unfold Num
    rcases e2 with q | q | q <;> omega
  · have : z.name ∈ zNames d := List.mem_map.2 ⟨z, hz, rfl⟩
    unfold allNames; simp [this]
  · obtain ⟨i, hi⟩ := List.getElem?_of_mem hx
    have e := eraOk_is (hr.eras z hz i x hi)
    have e2 := til_small hr hz hi
    have e3 := hr.fmts z hz x hx
    have e4 : x.fmt.size ≤ 12 := by
      unfold fmtOk at e3
      rw [Bool.and_eq_true, decide_eq_true_eq] at e3
      exact e3.1.2
    have e5 := hf.1
    refine ⟨?_, e4⟩
    unfold Num
    omega
  · have : l.name ∈ lNames d := List.mem_map.2 ⟨l, hl, rfl⟩
    unfold allNames; simp [this]
  · have : l.to ∈ lTos d := List.mem_map.2 ⟨l, hl, rfl⟩
    unfold allNames; simp [this]
end Gno
end
