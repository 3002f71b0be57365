/- Tries: BuildOf's exchange of two edges: its reads, into two boxes. -/
import Derived.Test.YtggepbkhhnhnkaaTrB0
import Derived.RangeFuncRecord
import Derived.Deep.RegionHeld3
set_option linter.unusedVariables false
set_option linter.unusedSimpArgs false
namespace Gno
open Go
/-- the region of a number. -/
def findReg (k : Nat) : Code → Option Code
  | .region id ops b => if id = k then some (.region id ops b) else none
  | .loop c => findReg k c
  | .seq a b => match findReg k a with
    | some c => some c
    | none => findReg k b
  | .block _ c => findReg k c
  | .scope c => findReg k c
  | .cond _ a b => match findReg k a with
    | some c => some c
    | none => findReg k b
  | _ => none
end Gno
namespace Go.Proofs.Ytggepbkhhnhnkaa
open Go.RowKit Gno
noncomputable def swapR : Code := ((Try.f10.body.bind (findReg 17)).getD .skip)
theorem new_second (W : World) (a b : Obj) : ((W.alloc a).alloc b).drew.heap[W.heap.size + 1]? = some b := by
  have h := World.alloc_heap_new (W.alloc a) b
  rw [show (W.alloc a).heap.size = W.heap.size + 1 from by simp] at h
  exact h
set_option maxRecDepth 100000 in
set_option maxHeartbeats 4000000 in
theorem swap_reg (g m cap jj j2 : Nat) (c1 c2 : Nat) (t1 t2 : Int) (W : World) (Q : Exit → Act → World → Prop) (s0 s1 s2 s3 s4 s5 s6 s7 s8 s11 s12 s13 s14 s15 s16 s17 s18 s19 s20 s21 s22 s23 s24 s25 s26 s27 s28 s29 s30 s31 s32 s33 s34 s35 s36 s37 s38 s39 s40 s41 s42 s43 s44 s45 s46 s47 s48 s49 s50 s51 s52 s53 s54 s55 s56 s57 s58 s59 s60 s61 s62 s63 s64 s65 s66 s67 s68 s69 s70 s71 s72 s73 s74 s75 s76 s77 s78 s79 s80 s81 s82 s83 s84 s85 s86 s87 s88 s89 s90 s91 s92 s93 s94 s95 s96 s97 s98 s99 s100 s101 s102 s103 s104 s105 s106 s107 s108 s109 s110 s111 s112 s113 s114 s115 s116 s117 s118 : Value)
    (hw : IntKind.i64.wrap ((jj : Int) - 1) = (j2 : Int)) (h1 : j2 < m) (h2 : jj < m)
    (e0 : W.cell? ⟨g, j2 * 2, none⟩ = some (.int .u8 c1)) (e1 : W.cell? ⟨g, j2 * 2 + 1, none⟩ = some (.int .i64 t1)) (e2 : W.cell? ⟨g, jj * 2, none⟩ = some (.int .u8 c2)) (e3 : W.cell? ⟨g, jj * 2 + 1, none⟩ = some (.int .i64 t2))
    (hQ : ∀ p q W', Below W.heap.size W W' → W'.heap[p]? = some (.cells #[.int .u8 c1, .int .i64 t1] 54 (0, 0)) → W'.heap[q]? = some (.cells #[.int .u8 c2, .int .i64 t2] 54 (0, 0)) → W.heap.size ≤ p → W.heap.size ≤ q →
      Q .normal ⟨#[s0, s1, s2, s3, s4, s5, s6, s7, s8, .slice (some ⟨g, 0, none⟩) m cap, .int .i64 jj, .pointer (some ⟨p, 0, none⟩), .pointer (some ⟨q, 0, none⟩), s13, s14, s15, s16, s17, s18, s19, s20, s21, s22, s23, s24, s25, s26, s27, s28, s29, s30, s31, s32, s33, s34, s35, s36, s37, s38, s39, s40, s41, s42, s43, s44, s45, s46, s47, s48, s49, s50, s51, s52, s53, s54, s55, s56, s57, s58, s59, s60, s61, s62, s63, s64, s65, s66, s67, s68, s69, s70, s71, s72, s73, s74, s75, s76, s77, s78, .slice (some ⟨g, 0, none⟩) m cap, .int .i64 jj, .int .i64 j2, .pointer (some ⟨g, j2 * 2, none⟩), .agg #[.int .u8 c1, .int .i64 t1], .slice (some ⟨g, 0, none⟩) m cap, .int .i64 jj, .pointer (some ⟨g, jj * 2, none⟩), .agg #[.int .u8 c2, .int .i64 t2], s88, s89, s90, s91, s92, s93, s94, s95, s96, s97, s98, s99, s100, s101, s102, s103, s104, s105, s106, s107, s108, s109, s110, s111, s112, s113, s114, s115, s116, s117, s118], []⟩ W') :
    swapR.wp Try.prog Q ⟨#[s0, s1, s2, s3, s4, s5, s6, s7, s8, .slice (some ⟨g, 0, none⟩) m cap, .int .i64 jj, s11, s12, s13, s14, s15, s16, s17, s18, s19, s20, s21, s22, s23, s24, s25, s26, s27, s28, s29, s30, s31, s32, s33, s34, s35, s36, s37, s38, s39, s40, s41, s42, s43, s44, s45, s46, s47, s48, s49, s50, s51, s52, s53, s54, s55, s56, s57, s58, s59, s60, s61, s62, s63, s64, s65, s66, s67, s68, s69, s70, s71, s72, s73, s74, s75, s76, s77, s78, s79, s80, s81, s82, s83, s84, s85, s86, s87, s88, s89, s90, s91, s92, s93, s94, s95, s96, s97, s98, s99, s100, s101, s102, s103, s104, s105, s106, s107, s108, s109, s110, s111, s112, s113, s114, s115, s116, s117, s118], []⟩ W := by
  have n0 : W.heap.size ≠ g := World.new_ne W _ e0
  have hgl : g < W.heap.size := World.block_lt_of_cell? W _ e0
  have i1 : (0 : Int) ≤ (j2 : Int) := Int.natCast_nonneg _
  have i2 : (j2 : Int) < (m : Int) := by omega
  have i3 : (0 : Int) ≤ (jj : Int) := Int.natCast_nonneg _
  have i4 : (jj : Int) < (m : Int) := by omega
  have HS4 : Hid (∀ V, Below W.heap.size W V → V.cell? ⟨g, j2 * 2, none⟩ = some (.int .u8 c1) ∧ V.cell? ⟨g, j2 * 2 + 1, none⟩ = some (.int .i64 t1) ∧ V.cell? ⟨g, jj * 2, none⟩ = some (.int .u8 c2) ∧ V.cell? ⟨g, jj * 2 + 1, none⟩ = some (.int .i64 t2)) := Lib.hid fun V h => ⟨(h.cell hgl).trans e0, (h.cell hgl).trans e1, (h.cell hgl).trans e2, (h.cell hgl).trans e3⟩
  have HQ := Lib.hid hQ
  clear hQ
  conv => arg 2; whnf
  go_region_held3 (fun w' => w'.cell? ⟨g, j2 * 2, none⟩ = some (.int .u8 c1) ∧ w'.cell? ⟨g, j2 * 2 + 1, none⟩ = some (.int .i64 t1) ∧ w'.cell? ⟨g, jj * 2, none⟩ = some (.int .u8 c2) ∧ w'.cell? ⟨g, jj * 2 + 1, none⟩ = some (.int .i64 t2)) ((refine HS4.out _ ?_; repeat (first | exact Below.refl _ _ | refine Below.drew ?_ | refine Below.alloc ?_ (by first | exact Nat.le_refl _ | simp) _ | refine Below.setCell ?_ (by first | exact Nat.le_refl _ | simp) _))) (fail)
  · exact HQ.out _ _ _ (((Below.refl _ _).alloc (Nat.le_refl _) _).alloc (by simp) _).drew ((Below.heap_alloc _ _ _ (by simp)).trans (World.alloc_heap_new W _)) (new_second W _ _) (Nat.le_refl _) (Nat.le_succ _)
  · exact HQ.out _ _ _ (((Below.refl _ _).alloc (Nat.le_refl _) _).alloc (by simp) _).drew (new_second W _ _) ((Below.heap_alloc _ _ _ (by simp)).trans (World.alloc_heap_new W _)) (Nat.le_succ _) (Nat.le_refl _)
end Go.Proofs.Ytggepbkhhnhnkaa
