/- Laid together: Times3, Times4. -/
import Derived.Deep.AppendLies
import Derived.Deep.RegionLaw
import Derived.Deep.RegionWith
import Derived.Deep.RegionHeld3
import Derived.Deep.QuietTactic
import Derived.BigQuiet
import Derived.Test.YtlngalmdidaahaaGreatDoorMUMostP0
import Derived.Test.YtlngalmdidaahaaGreatDoorMUMostP1
import Derived.Test.YtlngalmdidaahaaGreatDoorMUMostP2
import Derived.Test.YtlngalmdidaahaaGreatDoorMUMostP3
import Derived.Test.YtlngalmdidaahaaGreatDoorMUMostP4
import Derived.Test.YtlngalmdidaahaaGreatDoorMUMostP5
import Derived.Test.YtlngalmdidaahaaGreatDoorMUMostP6
import Derived.Test.YtlngalmdidaahaaGreatDoorMUMostP7
import Derived.Test.YtlngalmdidaahaaGreatDoorMUMostP8
import Derived.Test.YtlngalmdidaahaaGreatDoorMUMostP9
import Derived.Test.YtlngalmdidaahaaGreatDoorMUMostP10
import Derived.Test.YtlngalmdidaahaaGreatDoorMUMostP11
import Derived.Test.YtlngalmdidaahaaGreatDoorMUMostP12
import Derived.Test.YtlngalmdidaahaaGreatDoorMUMostP13
import Derived.Test.YtlngalmdidaahaaGreatDoorMUMostP14
import Derived.Test.YtlngalmdidaahaaGreatDoorMUMostP15
import Derived.Test.YtlngalmdidaahaaGreatDoorMUMostP16
import Derived.Test.YtlngalmdidaahaaGreatDoorMUMostP17
import Derived.Test.YtlngalmdidaahaaGreatDoorMUMostP18
import Derived.Test.YtlngalmdidaahaaGreatDoorMUMostP19
import Derived.Test.YtlngalmdidaahaaGreatDoorMUMostP20
import Derived.Test.YtlngalmdidaahaaGreatDoorMUMostP21
import Derived.Test.YtlngalmdidaahaaGreatDoorMUMostP22
import Derived.Test.YtlngalmdidaahaaGreatDoorMUMostP23
import Derived.Test.YtlngalmdidaahaaGreatDoorMUMostP24
import Derived.Test.YtlngalmdidaahaaGreatDoorMUMostP25
import Derived.Test.YtlngalmdidaahaaGreatDoorMUMostP26
import Derived.Test.YtlngalmdidaahaaGreatDoorMUMostP27
import Derived.Test.YtlngalmdidaahaaGreatDoorMUMostP28
import Derived.Test.YtlngalmdidaahaaGreatDoorMUMostP29
import Derived.Test.YtlngalmdidaahaaGreatDoorMUMostP30
import Derived.Test.YtlngalmdidaahaaGreatDoorMUMostP31
import Derived.Test.YtlngalmdidaahaaGreatDoorMUMostP32
import Derived.Test.YtlngalmdidaahaaGreatDoorMUMostP33
import Derived.Test.YtlngalmdidaahaaGreatDoorMUMostP34
import Derived.Test.YtlngalmdidaahaaGreatDoorMUMostP35
import Derived.Test.YtlngalmdidaahaaGreatDoorMUMostP36
import Derived.Test.YtlngalmdidaahaaGreatDoorMUMostP37
import Derived.Test.YtlngalmdidaahaaGreatDoorMUMostP38
import Derived.Test.YtlngalmdidaahaaGreatDoorMUMostP39
import Derived.Test.YtlngalmdidaahaaGreatDoorMUMostP40
import Derived.Test.YtlngalmdidaahaaGreatDoorMUMostP41
import Derived.Test.YtlngalmdidaahaaGreatDoorMUMostP42
import Derived.Test.YtlngalmdidaahaaGreatDoorMUMostP43
import Derived.Test.YtlngalmdidaahaaGreatDoorMUMostP44
import Derived.Test.YtlngalmdidaahaaGreatDoorMUMostP45
import Derived.Test.YtlngalmdidaahaaGreatDoorMUMostP46
import Derived.Test.YtlngalmdidaahaaGreatDoorQTimesA
set_option linter.unusedSimpArgs false
set_option linter.unusedVariables false
/- gnomonref.CompileOf: its regions that draw, each by itself. -/
set_option linter.unusedVariables false
set_option linter.unusedSimpArgs false
namespace Go.Proofs.YtlngalmdidaahaaGreatDoor
open Go.RowKit Gno
noncomputable def cofR (k : Nat) : Code := ((Tryz.f15.body.bind (findReg k)).getD .skip)
abbrev offO (tt sv : Int) (ab : ByteArray) : Obj := .cells #[.int .i64 tt, .int .i64 sv, .string ab] 28
abbrev offZ : Obj := .cells #[.int .i64 0, .int .i64 0, .string ⟨#[]⟩] 28
theorem three_sets {w : World} {b : Nat} {tt sv : Int} {ab : ByteArray} (h : w.heap[b]? = some offZ) : (((w.setCell ⟨b, 0, none⟩ (.int .i64 tt)).setCell ⟨b, 1, none⟩ (.int .i64 sv)).setCell ⟨b, 2, none⟩ (.string ab)).heap[b]? = some (offO tt sv ab) := by
  have h1 := heap_setCell_same w b 0 _ _ (.int .i64 tt) h
  have h2 := heap_setCell_same _ b 1 _ _ (.int .i64 sv) h1
  exact heap_setCell_same _ b 2 _ _ (.string ab) h2
set_option maxRecDepth 100000 in
set_option maxHeartbeats 4000000 in
theorem cof9 (d : Dt) (E g n cap k : Nat) (zone t tt sv : Int) (ab : ByteArray) (W : World) (Q : Exit → Act → World → Prop) (s0 s1 s3 s4 s5 s7 s9 s11 s12 s13 s14 s15 s16 s17 s18 s19 s20 s21 s22 s23 s24 s25 s26 s27 s28 s29 s30 s31 s32 s33 s34 s35 s36 s37 s38 s39 s40 s41 s42 s43 s44 s45 s46 s47 s48 s49 s50 s51 s52 s53 s54 s55 s56 s57 s58 s59 s60 : Value)
    (c0 : W.cell? ⟨E, 0, none⟩ = some (.slice d.sA d.sn d.sc)) (c1 : W.cell? ⟨E, 1, none⟩ = some (.slice d.zA d.zn d.zc)) (c2 : W.cell? ⟨E, 2, none⟩ = some (.slice d.lA d.ln d.lc)) (e0 : W.cell? ⟨g, k, none⟩ = some (.int .i64 t)) (hk : k < n)
    (hH : ∀ V, Below W.heap.size W V → Calls Tryz.prog 31 #[.agg #[.slice d.sA d.sn d.sc, .slice d.zA d.zn d.zc, .slice d.lA d.ln d.lc], .int .i64 zone, .int .i64 t] V fun e w' => e = .returned (.agg #[.int .i64 tt, .int .i64 sv, .string ab]) ∧ Below V.heap.size V w')
    (hQ : ∀ (p : Nat) (W' : World) (u30 u31 u32 u33 u34 u35 u36 : Value), Below W.heap.size W W' → W'.heap[p]? = some (offO tt sv ab) → W.heap.size ≤ p → Q .normal ⟨#[s0, s1, .pointer (some ⟨E, 0, none⟩), s3, s4, s5, .int .i64 zone, s7, .slice (some ⟨g, 0, none⟩) n cap, s9, .int .i64 k, .pointer (some ⟨p, 0, none⟩), s12, s13, s14, s15, s16, s17, s18, s19, s20, s21, s22, s23, s24, s25, s26, s27, s28, s29, u30, u31, u32, u33, u34, u35, u36, s37, s38, s39, s40, s41, s42, s43, s44, s45, s46, s47, s48, s49, s50, s51, s52, s53, s54, s55, s56, s57, s58, s59, s60], []⟩ W') :
    (cofR 9).wp Tryz.prog Q ⟨#[s0, s1, .pointer (some ⟨E, 0, none⟩), s3, s4, s5, .int .i64 zone, s7, .slice (some ⟨g, 0, none⟩) n cap, s9, .int .i64 k, s11, s12, s13, s14, s15, s16, s17, s18, s19, s20, s21, s22, s23, s24, s25, s26, s27, s28, s29, s30, s31, s32, s33, s34, s35, s36, s37, s38, s39, s40, s41, s42, s43, s44, s45, s46, s47, s48, s49, s50, s51, s52, s53, s54, s55, s56, s57, s58, s59, s60], []⟩ W := by
  have n0 : W.heap.size ≠ E := World.new_ne W _ c0
  have n1 : W.heap.size ≠ g := World.new_ne W _ e0
  have i1 : (0 : Int) ≤ (k : Int) := Int.natCast_nonneg _
  have i2 : (k : Int) < (n : Int) := by omega
  have hEl : E < W.heap.size := World.block_lt_of_cell? W _ c0
  have hgl : g < W.heap.size := World.block_lt_of_cell? W _ e0
  have hba : Below W.heap.size W (W.alloc (.cells #[.int .i64 0, .int .i64 0, .string ⟨#[]⟩] 28)) := (Below.refl _ _).alloc (Nat.le_refl _) _
  have q0 : (W.alloc (.cells #[.int .i64 0, .int .i64 0, .string ⟨#[]⟩] 28)).cell? ⟨E, 0, none⟩ = some (.slice d.sA d.sn d.sc) := (hba.cell hEl).trans c0
  have q1 : (W.alloc (.cells #[.int .i64 0, .int .i64 0, .string ⟨#[]⟩] 28)).cell? ⟨E, 1, none⟩ = some (.slice d.zA d.zn d.zc) := (hba.cell hEl).trans c1
  have q2 : (W.alloc (.cells #[.int .i64 0, .int .i64 0, .string ⟨#[]⟩] 28)).cell? ⟨E, 2, none⟩ = some (.slice d.lA d.ln d.lc) := (hba.cell hEl).trans c2
  have q3 : (W.alloc (.cells #[.int .i64 0, .int .i64 0, .string ⟨#[]⟩] 28)).cell? ⟨g, k, none⟩ = some (.int .i64 t) := (hba.cell hgl).trans e0
  clear hba hEl hgl
  have HH := Lib.hid hH
  have HQ := Lib.hid hQ
  have HB1 : Hid (Below W.heap.size W W.drew) := Lib.hid (Below.refl _ _).drew
  have HF : Hid (∀ V, Below (W.alloc offZ).drew.heap.size (W.alloc offZ).drew V → V.cell? ⟨W.heap.size, 0, none⟩ = some (.int .i64 0) ∧ V.cell? ⟨W.heap.size, 1, none⟩ = some (.int .i64 0) ∧ V.cell? ⟨W.heap.size, 2, none⟩ = some (.string ⟨#[]⟩) ∧ V.frozen? ⟨W.heap.size, 0, none⟩ = false ∧ V.frozen? ⟨W.heap.size, 1, none⟩ = false ∧ V.frozen? ⟨W.heap.size, 2, none⟩ = false ∧ V.heap[W.heap.size]? = some offZ) := Lib.hid (fun V h => by
    have k : V.heap[W.heap.size]? = some offZ := (h.block W.heap.size (by simp)).trans (World.alloc_heap_new W offZ)
    exact ⟨cell_of k rfl, cell_of k rfl, cell_of k rfl, frozen_of k, frozen_of k, frozen_of k, k⟩)
  have HB2 : Hid (Below W.heap.size W (W.alloc offZ).drew) := Lib.hid ((Below.refl _ _).alloc (Nat.le_refl _) _).drew
  clear hH hQ
  conv => arg 2; whnf
  refine wp_region_noPanic ?_
  go_region_with (first | (go_at_call 31; refine (HH.out _ HB1.out).mono ?_; rintro e w3 ⟨rfl, h3⟩; replace h3 := Lib.hid h3) | (go_at_call 31; refine (HH.out _ HB2.out).mono ?_; rintro e w3 ⟨rfl, h3⟩; obtain ⟨f0, f1, f2, f3, f4, f5, f6⟩ := HF.out _ h3; replace f6 := Lib.hid f6; replace h3 := Lib.hid h3))
  all_goals refine NoPanic.normal ?_
  all_goals first
    | exact HQ.out _ _ _ _ _ _ _ _ _ (HB1.out.trans (h3.out.mono (Nat.le_refl _)) |>.alloc (h3.out.size) _) (World.alloc_heap_new _ _) h3.out.size
    | exact HQ.out _ _ _ _ _ _ _ _ _ ((((HB2.out.trans (h3.out.mono (by simp))).setCell (Nat.le_refl _) _).setCell (Nat.le_refl _) _).setCell (Nat.le_refl _) _) (three_sets f6.out) (Nat.le_refl _)
end Go.Proofs.YtlngalmdidaahaaGreatDoor

/- gnomonref.CompileOf: its regions that draw, each by itself. -/
set_option linter.unusedVariables false
namespace Go.Proofs.YtlngalmdidaahaaGreatDoor
open Go.RowKit Gno
set_option maxRecDepth 100000 in
set_option maxHeartbeats 4000000 in
theorem cof10 (d : Dt) (E g n cap k p : Nat) (zone t tt sv tt0 sv0 : Int) (ab ab0 : ByteArray) (b : Bool) (hb : b = !(tt0 == tt && (sv0 == sv && ab0.toList == ab.toList))) (W : World) (Q : Exit → Act → World → Prop) (s0 s1 s3 s4 s5 s7 s9 s12 s13 s14 s15 s16 s17 s18 s19 s20 s21 s22 s23 s24 s25 s26 s27 s28 s29 s30 s31 s32 s33 s34 s35 s36 s37 s38 s39 s40 s41 s42 s43 s44 s45 s46 s47 s48 s49 s50 s51 s52 s53 s54 s55 s56 s57 s58 s59 s60 : Value)
    (c0 : W.cell? ⟨E, 0, none⟩ = some (.slice d.sA d.sn d.sc)) (c1 : W.cell? ⟨E, 1, none⟩ = some (.slice d.zA d.zn d.zc)) (c2 : W.cell? ⟨E, 2, none⟩ = some (.slice d.lA d.ln d.lc)) (e0 : W.cell? ⟨g, k, none⟩ = some (.int .i64 t)) (hk : k < n) (hk0 : ((k : Int) == 0) = false) (hw : IntKind.i64.wrap (t - 1) = t - 1)
    (hp : W.heap[p]? = some (offO tt sv ab))
    (hH : ∀ V, Below W.heap.size W V → Calls Tryz.prog 31 #[.agg #[.slice d.sA d.sn d.sc, .slice d.zA d.zn d.zc, .slice d.lA d.ln d.lc], .int .i64 zone, .int .i64 (t - 1)] V fun e w' => e = .returned (.agg #[.int .i64 tt0, .int .i64 sv0, .string ab0]) ∧ Below V.heap.size V w')
    (hQ : ∀ (W' : World) (u37 u38 u39 u40 u41 u42 u43 u44 u45 u46 u47 u48 u49 : Value), Below W.heap.size W W' → Q .normal ⟨#[s0, s1, .pointer (some ⟨E, 0, none⟩), s3, s4, s5, .int .i64 zone, s7, .slice (some ⟨g, 0, none⟩) n cap, s9, .int .i64 k, .pointer (some ⟨p, 0, none⟩), s12, s13, s14, s15, s16, s17, s18, s19, s20, s21, s22, s23, s24, s25, s26, s27, s28, s29, s30, s31, s32, s33, s34, s35, s36, u37, u38, u39, u40, u41, u42, u43, u44, u45, u46, u47, u48, u49, .bool b, s51, s52, s53, s54, s55, s56, s57, s58, s59, s60], []⟩ W') :
    (cofR 10).wp Tryz.prog Q ⟨#[s0, s1, .pointer (some ⟨E, 0, none⟩), s3, s4, s5, .int .i64 zone, s7, .slice (some ⟨g, 0, none⟩) n cap, s9, .int .i64 k, .pointer (some ⟨p, 0, none⟩), s12, s13, s14, s15, s16, s17, s18, s19, s20, s21, s22, s23, s24, s25, s26, s27, s28, s29, s30, s31, s32, s33, s34, s35, s36, s37, s38, s39, s40, s41, s42, s43, s44, s45, s46, s47, s48, s49, s50, s51, s52, s53, s54, s55, s56, s57, s58, s59, s60], []⟩ W := by
  have i1 : (0 : Int) ≤ (k : Int) := Int.natCast_nonneg _
  have i2 : (k : Int) < (n : Int) := by omega
  have o0 : W.cell? ⟨p, 0, none⟩ = some (.int .i64 tt) := cell_of hp rfl
  have o1 : W.cell? ⟨p, 1, none⟩ = some (.int .i64 sv) := cell_of hp rfl
  have o2 : W.cell? ⟨p, 2, none⟩ = some (.string ab) := cell_of hp rfl
  have HH : Hid (∀ V, Below W.heap.size W V → Calls Tryz.prog 31 #[.agg #[.slice d.sA d.sn d.sc, .slice d.zA d.zn d.zc, .slice d.lA d.ln d.lc], .int .i64 zone, .int .i64 (t - 1)] V fun e w' => e = .returned (.agg #[.int .i64 tt0, .int .i64 sv0, .string ab0]) ∧ Below W.heap.size W w') := Lib.hid (fun V h => (hH V h).mono fun _ _ q => ⟨q.1, h.trans (q.2.mono h.size)⟩)
  have HQ := Lib.hid hQ
  have hEl : E < W.heap.size := World.block_lt_of_cell? W _ c0
  have hgl : g < W.heap.size := World.block_lt_of_cell? W _ e0
  have hpl : p < W.heap.size := World.block_lt_of_cell? W _ o0
  have HC : Hid (∀ w', Below W.heap.size W w' → w'.cell? ⟨E, 0, none⟩ = some (.slice d.sA d.sn d.sc) ∧ w'.cell? ⟨E, 1, none⟩ = some (.slice d.zA d.zn d.zc) ∧ w'.cell? ⟨E, 2, none⟩ = some (.slice d.lA d.ln d.lc) ∧ w'.cell? ⟨g, k, none⟩ = some (.int .i64 t) ∧ w'.cell? ⟨p, 0, none⟩ = some (.int .i64 tt) ∧ w'.cell? ⟨p, 1, none⟩ = some (.int .i64 sv) ∧ w'.cell? ⟨p, 2, none⟩ = some (.string ab)) := Lib.hid fun V h => ⟨(h.cell hEl).trans c0, (h.cell hEl).trans c1, (h.cell hEl).trans c2, (h.cell hgl).trans e0, (h.cell hpl).trans o0, (h.cell hpl).trans o1, (h.cell hpl).trans o2⟩
  have hb0 : Below W.heap.size W W := Below.refl _ _
  have hb1 : Below W.heap.size W W.drew := (Below.refl _ _).drew
  clear hH hQ hp hEl hgl hpl
  cases e1 : (tt0 == tt)
  · obtain rfl : b = true := by rw [hb, e1]; rfl
    clear hb
    conv => arg 2; whnf
    go_region_held3 (fun w' => Below W.heap.size W w' ∧ w'.cell? ⟨E, 0, none⟩ = some (.slice d.sA d.sn d.sc) ∧ w'.cell? ⟨E, 1, none⟩ = some (.slice d.zA d.zn d.zc) ∧ w'.cell? ⟨E, 2, none⟩ = some (.slice d.lA d.ln d.lc) ∧ w'.cell? ⟨g, k, none⟩ = some (.int .i64 t) ∧ w'.cell? ⟨p, 0, none⟩ = some (.int .i64 tt) ∧ w'.cell? ⟨p, 1, none⟩ = some (.int .i64 sv) ∧ w'.cell? ⟨p, 2, none⟩ = some (.string ab))
      (refine ⟨?_, ?_, ?_, ?_, ?_, ?_, ?_, ?_⟩ <;> (first | assumption | exact Below.drew (by assumption) | go_keep))
      (first | (go_at_call 31; refine (HH.out _ (by assumption)).mono ?_; rintro e w4 ⟨rfl, hb5⟩; obtain ⟨k0, k1, k2, k3, k4, k5, k6⟩ := HC.out _ hb5))
    all_goals exact HQ.out _ _ _ _ _ _ _ _ _ _ _ _ _ _ (by first | assumption | exact Below.drew (by assumption))
  · cases e2 : (sv0 == sv)
    · obtain rfl : b = true := by rw [hb, e1, e2]; rfl
      clear hb
      conv => arg 2; whnf
      go_region_held3 (fun w' => Below W.heap.size W w' ∧ w'.cell? ⟨E, 0, none⟩ = some (.slice d.sA d.sn d.sc) ∧ w'.cell? ⟨E, 1, none⟩ = some (.slice d.zA d.zn d.zc) ∧ w'.cell? ⟨E, 2, none⟩ = some (.slice d.lA d.ln d.lc) ∧ w'.cell? ⟨g, k, none⟩ = some (.int .i64 t) ∧ w'.cell? ⟨p, 0, none⟩ = some (.int .i64 tt) ∧ w'.cell? ⟨p, 1, none⟩ = some (.int .i64 sv) ∧ w'.cell? ⟨p, 2, none⟩ = some (.string ab))
        (refine ⟨?_, ?_, ?_, ?_, ?_, ?_, ?_, ?_⟩ <;> (first | assumption | exact Below.drew (by assumption) | go_keep))
        (first | (go_at_call 31; refine (HH.out _ (by assumption)).mono ?_; rintro e w4 ⟨rfl, hb5⟩; obtain ⟨k0, k1, k2, k3, k4, k5, k6⟩ := HC.out _ hb5))
      all_goals exact HQ.out _ _ _ _ _ _ _ _ _ _ _ _ _ _ (by first | assumption | exact Below.drew (by assumption))
    · cases e3 : (ab0.toList == ab.toList)
      · obtain rfl : b = true := by rw [hb, e1, e2, e3]; rfl
        clear hb
        conv => arg 2; whnf
        go_region_held3 (fun w' => Below W.heap.size W w' ∧ w'.cell? ⟨E, 0, none⟩ = some (.slice d.sA d.sn d.sc) ∧ w'.cell? ⟨E, 1, none⟩ = some (.slice d.zA d.zn d.zc) ∧ w'.cell? ⟨E, 2, none⟩ = some (.slice d.lA d.ln d.lc) ∧ w'.cell? ⟨g, k, none⟩ = some (.int .i64 t) ∧ w'.cell? ⟨p, 0, none⟩ = some (.int .i64 tt) ∧ w'.cell? ⟨p, 1, none⟩ = some (.int .i64 sv) ∧ w'.cell? ⟨p, 2, none⟩ = some (.string ab))
          (refine ⟨?_, ?_, ?_, ?_, ?_, ?_, ?_, ?_⟩ <;> (first | assumption | exact Below.drew (by assumption) | go_keep))
          (first | (go_at_call 31; refine (HH.out _ (by assumption)).mono ?_; rintro e w4 ⟨rfl, hb5⟩; obtain ⟨k0, k1, k2, k3, k4, k5, k6⟩ := HC.out _ hb5))
        all_goals exact HQ.out _ _ _ _ _ _ _ _ _ _ _ _ _ _ (by first | assumption | exact Below.drew (by assumption))
      · obtain rfl : b = false := by rw [hb, e1, e2, e3]; rfl
        clear hb
        conv => arg 2; whnf
        go_region_held3 (fun w' => Below W.heap.size W w' ∧ w'.cell? ⟨E, 0, none⟩ = some (.slice d.sA d.sn d.sc) ∧ w'.cell? ⟨E, 1, none⟩ = some (.slice d.zA d.zn d.zc) ∧ w'.cell? ⟨E, 2, none⟩ = some (.slice d.lA d.ln d.lc) ∧ w'.cell? ⟨g, k, none⟩ = some (.int .i64 t) ∧ w'.cell? ⟨p, 0, none⟩ = some (.int .i64 tt) ∧ w'.cell? ⟨p, 1, none⟩ = some (.int .i64 sv) ∧ w'.cell? ⟨p, 2, none⟩ = some (.string ab))
          (refine ⟨?_, ?_, ?_, ?_, ?_, ?_, ?_, ?_⟩ <;> (first | assumption | exact Below.drew (by assumption) | go_keep))
          (first | (go_at_call 31; refine (HH.out _ (by assumption)).mono ?_; rintro e w4 ⟨rfl, hb5⟩; obtain ⟨k0, k1, k2, k3, k4, k5, k6⟩ := HC.out _ hb5))
        all_goals exact HQ.out _ _ _ _ _ _ _ _ _ _ _ _ _ _ (by first | assumption | exact Below.drew (by assumption))
set_option maxRecDepth 100000 in
set_option maxHeartbeats 4000000 in
theorem cof11 (g n cap k p m B : Nat) (t tt sv : Int) (ab : ByteArray) (xs : List Value) (v : Value) (W : World) (Q : Exit → Act → World → Prop) (s0 s1 s2 s3 s4 s5 s6 s7 s12 s13 s14 s15 s16 s17 s18 s19 s20 s21 s22 s23 s24 s25 s26 s27 s28 s29 s30 s31 s32 s33 s34 s35 s36 s37 s38 s39 s40 s41 s42 s43 s44 s45 s46 s47 s48 s49 s50 s51 s52 s53 s54 s55 s56 s57 s58 s59 s60 : Value)
    (e0 : W.cell? ⟨g, k, none⟩ = some (.int .i64 t)) (hk : k < n) (hp : W.heap[p]? = some (offO tt sv ab)) (hO : W.ownsRow B 56 4 v m xs) (hm : m < 1893456000) (hB : B ≤ W.heap.size) (hap : ∀ q, v.ownBlock = some q → q ≠ g ∧ q ≠ p)
    (hQ : ∀ (v' : Value) (W' : World) (u51 u52 u53 u54 u55 u56 u57 u58 u59 : Value), W'.ownsRow B 56 4 v' (m + 1) (xs ++ tnCells ⟨t, tt, sv, ab⟩) → Below B W W' → Q .normal ⟨#[s0, s1, s2, s3, s4, s5, s6, s7, .slice (some ⟨g, 0, none⟩) n cap, v', .int .i64 k, .pointer (some ⟨p, 0, none⟩), s12, s13, s14, s15, s16, s17, s18, s19, s20, s21, s22, s23, s24, s25, s26, s27, s28, s29, s30, s31, s32, s33, s34, s35, s36, s37, s38, s39, s40, s41, s42, s43, s44, s45, s46, s47, s48, s49, s50, u51, u52, u53, u54, u55, u56, u57, u58, u59, s60], []⟩ W') :
    (cofR 11).wp Tryz.prog Q ⟨#[s0, s1, s2, s3, s4, s5, s6, s7, .slice (some ⟨g, 0, none⟩) n cap, v, .int .i64 k, .pointer (some ⟨p, 0, none⟩), s12, s13, s14, s15, s16, s17, s18, s19, s20, s21, s22, s23, s24, s25, s26, s27, s28, s29, s30, s31, s32, s33, s34, s35, s36, s37, s38, s39, s40, s41, s42, s43, s44, s45, s46, s47, s48, s49, s50, s51, s52, s53, s54, s55, s56, s57, s58, s59, s60], []⟩ W := by
  have i1 : (0 : Int) ≤ (k : Int) := Int.natCast_nonneg _
  have i2 : (k : Int) < (n : Int) := by omega
  have o0 : W.cell? ⟨p, 0, none⟩ = some (.int .i64 tt) := cell_of hp rfl
  have o1 : W.cell? ⟨p, 1, none⟩ = some (.int .i64 sv) := cell_of hp rfl
  have o2 : W.cell? ⟨p, 2, none⟩ = some (.string ab) := cell_of hp rfl
  have HQ := Lib.hid hQ
  have hgl : g < W.heap.size := World.block_lt_of_cell? W _ e0
  have hpl : p < W.heap.size := World.block_lt_of_cell? W _ o0
  obtain ⟨i0, hi0, hz0, hz1, hz2⟩ := info_parts infoTurn
  have hI := Lib.hid hi0
  have hZ0 := Lib.hid hz0
  have hZ1 := Lib.hid hz1
  have hZ2 := Lib.hid hz2
  have HO := Lib.hid (hO.alloc (.cells #[.int .i64 t, .int .i64 tt, .int .i64 sv, .string ab] 56))
  have HR := Lib.hid (fun k hk => (hO.lt k hk).1)
  have HLA : Hid (∀ j u, (tnCells ⟨t, tt, sv, ab⟩)[j]? = some u → (W.alloc (.cells #[.int .i64 t, .int .i64 tt, .int .i64 sv, .string ab] 56)).cell? ((⟨W.heap.size, 0, none⟩ : Addr).add j) = some u) := Lib.hid (laid_at (cs := #[.int .i64 t, .int .i64 tt, .int .i64 sv, .string ab]))
  have HC : Hid (∀ w', Below W.heap.size W w' → w'.cell? ⟨g, k, none⟩ = some (.int .i64 t) ∧ w'.cell? ⟨p, 0, none⟩ = some (.int .i64 tt) ∧ w'.cell? ⟨p, 1, none⟩ = some (.int .i64 sv) ∧ w'.cell? ⟨p, 2, none⟩ = some (.string ab)) := Lib.hid fun V h => ⟨(h.cell hgl).trans e0, (h.cell hpl).trans o0, (h.cell hpl).trans o1, (h.cell hpl).trans o2⟩
  have HG : Hid (∀ w3, (W.alloc (.cells #[.int .i64 t, .int .i64 tt, .int .i64 sv, .string ab] 56)).drew.grownBy w3 v.ownBlock → w3.cell? ⟨g, k, none⟩ = some (.int .i64 t) ∧ w3.cell? ⟨p, 0, none⟩ = some (.int .i64 tt) ∧ w3.cell? ⟨p, 1, none⟩ = some (.int .i64 sv) ∧ w3.cell? ⟨p, 2, none⟩ = some (.string ab)) := Lib.hid fun V h => by
    obtain ⟨a0, a1, a2, a3⟩ := HC.out _ ((Below.refl W.heap.size W).alloc (Nat.le_refl _) (.cells #[.int .i64 t, .int .i64 tt, .int .i64 sv, .string ab] 56)).drew
    exact ⟨(h.cell_far _ (by simp; omega) (fun e => (hap _ e.symm).1 rfl)).trans a0, (h.cell_far _ (by simp; omega) (fun e => (hap _ e.symm).2 rfl)).trans a1, (h.cell_far _ (by simp; omega) (fun e => (hap _ e.symm).2 rfl)).trans a2, (h.cell_far _ (by simp; omega) (fun e => (hap _ e.symm).2 rfl)).trans a3⟩
  have HB : Hid (∀ w3, (W.alloc (.cells #[.int .i64 t, .int .i64 tt, .int .i64 sv, .string ab] 56)).drew.grownBy w3 v.ownBlock → Below B W w3) := Lib.hid fun V h => ((Below.refl B W).alloc hB _).drew.grown h (by simp; omega) (fun k hk => HR.out k hk)
  clear hQ hp hgl hpl hi0 hz0 hz1 hz2 hO hap
  conv => arg 2; whnf
  go_region_held3 (fun w' => w'.cell? ⟨g, k, none⟩ = some (.int .i64 t) ∧ w'.cell? ⟨p, 0, none⟩ = some (.int .i64 tt) ∧ w'.cell? ⟨p, 1, none⟩ = some (.int .i64 sv) ∧ w'.cell? ⟨p, 2, none⟩ = some (.string ab))
    (first | (refine ⟨?_, ?_, ?_, ?_⟩ <;> assumption) | (refine HC.out _ ?_; repeat (first | exact Below.refl _ _ | assumption | refine Below.drew ?_ | refine Below.alloc ?_ (by first | exact Nat.le_refl _ | simp) _)))
    ((refine step_append_lies _ rfl _ _ 34 rfl B 56 i0 (.agg #[.int .i64 0, .int .i64 0, .int .i64 0, .string ⟨#[]⟩]) 4 40 Tryz.underlying34 hI.out hZ0.out hZ1.out hZ2.out rfl (by decide) v m _ rfl HO.out ⟨W.heap.size, 0, none⟩ 1 1 (tnCells ⟨t, tt, sv, ab⟩) rfl rfl HLA.out (by intro u hu; simp [tnCells] at hu; rcases hu with rfl | rfl | rfl | rfl <;> rfl) (by decide) (by unfold maxLen; omega) (by omega) (by simp; omega) _ rfl ?_; intro g3 cap3 w3 hown hg2 hat hlt; obtain ⟨k0, k1, k2, k3⟩ := HG.out _ hg2; replace hg2 := HB.out _ hg2))
  all_goals exact HQ.out _ _ _ _ _ _ _ _ _ _ _ hown hg2
end Go.Proofs.YtlngalmdidaahaaGreatDoor
