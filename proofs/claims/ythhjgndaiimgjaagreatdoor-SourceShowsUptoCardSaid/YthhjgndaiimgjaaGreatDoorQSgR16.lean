/- The reference's reader: a rule behind the last one's. -/
import Derived.Deep.RegionLaw
import Derived.Deep.AppendLies
import Derived.Deep.RegionHeld3
import Derived.Test.YthhjgndaiimgjaaGreatDoorQSgR0
set_option linter.unusedSimpArgs false
set_option linter.unusedVariables false
set_option linter.unusedVariables false
set_option linter.unusedSimpArgs false
set_option maxRecDepth 100000
namespace Go.Proofs.YthhjgndaiimgjaaGreatDoor
open Go.RowKit Gno
attribute [local go_sem] Oper.semAt_some
set_option maxHeartbeats 8000000 in
theorem reg16 {u0 u1 u2 u3 u4 u6 u7 u10 u11 u12 u13 u14 u15 u16 u17 u18 u19 u20 u21 u22 u23 u24 u25 u26 u27 u28 u29 u30 u31 u32 u33 u34 u35 u36 u37 u38 u39 u40 u41 u42 u43 u44 u45 u46 u47 u48 u49 u50 u51 u52 u53 u54 u55 u56 u57 u58 u59 u60 u61 u62 u63 u64 u65 u66 u67 u68 u69 u70 u71 u72 u73 u74 u75 u76 u77 u78 u79 u80 u81 u82 u83 u84 u85 u86 u87 u88 u89 u90 u91 u92 u93 u94 u95 u96 u97 u98 u99 u100 u101 u102 u103 u104 u105 u106 u107 u108 u109 u110 u111 u112 u113 u114 u115 u116 u117 u118 u119 u120 u121 u122 u123 u124 u125 u126 u127 u128 u129 u130 u131 u132 u133 u134 u135 u136 u137 u138 u139 u140 u141 u142 u143 u144 u145 u146 u147 u148 u149 u150 u151 u152 u153 u154 u155 u156 u157 u158 u159 u160 u161 u162 u163 u164 u165 u166 u167 u168 u169 u170 u171 u172 u173 u174 u175 u176 u177 u178 u179 u180 u181 u182 u183 u184 : Value} {Q : Exit → Act → World → Prop} {B X R LS i : Nat} {v : Value} {L : List Bt} {c : Cn} {w V : World} {n1 n2 n3 n4 n5 n6 n7 n8 : Int} {b : ByteArray} {y : Bt} (hb : b = Bs y) (hf : FI B X v L c w V) (hz : CnZ i c) (hi5 : i ≤ 5000) (hemp : c.ss ≠ []) (hLn : LS = c.ss.length) (hRV : V.heap[R]? = some (.cells #[.int .i64 n1, .int .i64 n2, .int .i64 n3, .int .i64 n4, .int .i64 n5, .int .i64 n6, .int .i64 n7, .int .i64 n8, .string b] 53))
    (h : ∀ (v90 v91 v92 v93 v94 v95 v96 v97 v98 v99 v100 v101 v102 v103 v104 v105 : Value) (W : World), FI B X v L { c with ss := ontoLast c.ss ([n1, n2, n3, n4, n5, n6, n7, n8], y) } w W → Q .normal { tmps := #[u0, u1, u2, u3, u4, .pointer (some ⟨X, 0, none⟩), u6, u7, .pointer (some ⟨R, 0, none⟩), .int .i64 (LS : Nat), u10, u11, u12, u13, u14, u15, u16, u17, u18, u19, u20, u21, u22, u23, u24, u25, u26, u27, u28, u29, u30, u31, u32, u33, u34, u35, u36, u37, u38, u39, u40, u41, u42, u43, u44, u45, u46, u47, u48, u49, u50, u51, u52, u53, u54, u55, u56, u57, u58, u59, u60, u61, u62, u63, u64, u65, u66, u67, u68, u69, u70, u71, u72, u73, u74, u75, u76, u77, u78, u79, u80, u81, u82, u83, u84, u85, u86, u87, u88, u89, v90, v91, v92, v93, v94, v95, v96, v97, v98, v99, v100, v101, v102, v103, v104, v105, u106, u107, u108, u109, u110, u111, u112, u113, u114, u115, u116, u117, u118, u119, u120, u121, u122, u123, u124, u125, u126, u127, u128, u129, u130, u131, u132, u133, u134, u135, u136, u137, u138, u139, u140, u141, u142, u143, u144, u145, u146, u147, u148, u149, u150, u151, u152, u153, u154, u155, u156, u157, u158, u159, u160, u161, u162, u163, u164, u165, u166, u167, u168, u169, u170, u171, u172, u173, u174, u175, u176, u177, u178, u179, u180, u181, u182, u183, u184], defers := [] } W) :
    (regD 16).wp Tryz.prog Q { tmps := #[u0, u1, u2, u3, u4, .pointer (some ⟨X, 0, none⟩), u6, u7, .pointer (some ⟨R, 0, none⟩), .int .i64 (LS : Nat), u10, u11, u12, u13, u14, u15, u16, u17, u18, u19, u20, u21, u22, u23, u24, u25, u26, u27, u28, u29, u30, u31, u32, u33, u34, u35, u36, u37, u38, u39, u40, u41, u42, u43, u44, u45, u46, u47, u48, u49, u50, u51, u52, u53, u54, u55, u56, u57, u58, u59, u60, u61, u62, u63, u64, u65, u66, u67, u68, u69, u70, u71, u72, u73, u74, u75, u76, u77, u78, u79, u80, u81, u82, u83, u84, u85, u86, u87, u88, u89, u90, u91, u92, u93, u94, u95, u96, u97, u98, u99, u100, u101, u102, u103, u104, u105, u106, u107, u108, u109, u110, u111, u112, u113, u114, u115, u116, u117, u118, u119, u120, u121, u122, u123, u124, u125, u126, u127, u128, u129, u130, u131, u132, u133, u134, u135, u136, u137, u138, u139, u140, u141, u142, u143, u144, u145, u146, u147, u148, u149, u150, u151, u152, u153, u154, u155, u156, u157, u158, u159, u160, u161, u162, u163, u164, u165, u166, u167, u168, u169, u170, u171, u172, u173, u174, u175, u176, u177, u178, u179, u180, u181, u182, u183, u184], defers := [] } V := by
  obtain ⟨vs, vz, vl, ps, pz, hx, hd⟩ := hf.own
  have HQ := Lib.hid h
  clear h
  have r0 : V.cell? ⟨R, 0, none⟩ = some (.int .i64 n1) := cell_of hRV rfl
  have r1 : V.cell? ⟨R, 1, none⟩ = some (.int .i64 n2) := cell_of hRV rfl
  have r2 : V.cell? ⟨R, 2, none⟩ = some (.int .i64 n3) := cell_of hRV rfl
  have r3 : V.cell? ⟨R, 3, none⟩ = some (.int .i64 n4) := cell_of hRV rfl
  have r4 : V.cell? ⟨R, 4, none⟩ = some (.int .i64 n5) := cell_of hRV rfl
  have r5 : V.cell? ⟨R, 5, none⟩ = some (.int .i64 n6) := cell_of hRV rfl
  have r6 : V.cell? ⟨R, 6, none⟩ = some (.int .i64 n7) := cell_of hRV rfl
  have r7 : V.cell? ⟨R, 7, none⟩ = some (.int .i64 n8) := cell_of hRV rfl
  have r8 : V.cell? ⟨R, 8, none⟩ = some (.string b) := cell_of hRV rfl
  have HBB := Lib.hid hb
  obtain ⟨p0, p, S, sr, rfl, hcs, hm0, hm1, hpl⟩ := last_piece hd.setsC hemp
  obtain ⟨sa, srs⟩ := sr
  obtain ⟨A, cap, hv, hfm⟩ := ow_form hd.sets.row
  obtain ⟨g, rfl, hBg, _⟩ := hfm (by simp)
  have hl1' : (p0 ++ [p]).length = p0.length + 1 := by simp
  rw [hl1'] at hv
  subst hv
  have hN5 : p0.length ≤ 5000 := by have h1 := hz.ss; rw [hcs, List.length_append] at h1; simp at h1; omega
  have hpn : p.n ≤ 5000 := by
    have h1 := (hz.sets (sa, srs) (by rw [hcs]; simp)).2.1
    unfold pcT stT at hm1
    simp only [Prod.mk.injEq] at hm1
    have h2 : p.n = srs.length := hm1.2.1
    have h3 : srs.length ≤ i := h1
    omega
  have HCS := Lib.hid hcs
  have HM0 := Lib.hid hm0
  have HM1 := Lib.hid hm1
  obtain ⟨N, hN⟩ : ∃ N, N = p0.length := ⟨_, rfl⟩
  have HN := Lib.hid hN
  have hLS : LS = p0.length + 1 := by rw [hLn, hcs, List.length_append, hpl]; rfl
  have HLL := Lib.hid hLS
  rw [← hLS] at hd hx
  have HDV := Lib.hid hd
  have HXV := Lib.hid hx
  have HFV := Lib.hid hf
  have hLN : LS = N + 1 := by omega
  rw [← hN] at hN5
  have hi0' : (0 : Int) ≤ (N : Int) := Int.natCast_nonneg _
  have hi1' : (N : Int) < (LS : Int) := by omega
  have hi2' : IntKind.i64.wrap ((LS : Int) - 1) = (N : Int) := by rw [IntKind.wrap_i64]; omega
  obtain ⟨pv, hpv2⟩ : ∃ pv, pv = p.v := ⟨_, rfl⟩
  have HPW := Lib.hid hpv2
  obtain ⟨M, hM⟩ : ∃ M, M = p.n := ⟨_, rfl⟩
  have HMN := Lib.hid hM
  rw [← hM] at hpn
  have HCE : Hid (rlCells (rlOf ([n1, n2, n3, n4, n5, n6, n7, n8], y)) = [.int .i64 n1, .int .i64 n2, .int .i64 n3, .int .i64 n4, .int .i64 n5, .int .i64 n6, .int .i64 n7, .int .i64 n8, .string b]) := Lib.hid (by rw [HBB.out]; rfl)
  have e0 : V.cell? ⟨X, 0, none⟩ = some (.slice (some ⟨g, 0, none⟩) LS cap) := cell_of HXV.out rfl
  have k1 : V.cell? ⟨g, N * 2 + 1, none⟩ = some pv := (dh_row2 HDV.out.sets.row HLL.out HN.out HPW.out).1
  obtain ⟨i0, hii, hz0, hz1, hz2⟩ := info_parts infoRuleP
  have HI := Lib.hid hii
  have HZ0 := Lib.hid hz0
  have HZ1 := Lib.hid hz1
  have HZ2 := Lib.hid hz2
  have hba : Below V.heap.size V (V.alloc (.cells #[.int .i64 n1, .int .i64 n2, .int .i64 n3, .int .i64 n4, .int .i64 n5, .int .i64 n6, .int .i64 n7, .int .i64 n8, .string b] 53)).drew := ((Below.refl _ _).alloc (Nat.le_refl _) _).trans (Below.refl _ _).drew
  have HXA := Lib.hid (HXV.out.below hba)
  have HDA := Lib.hid (HDV.out.keep (keepD_below hba))
  have HFA := Lib.hid (HFV.out.next hba)
  have HRA := Lib.hid HDA.out.sets.row
  have HR2 : Hid ((V.alloc (.cells #[.int .i64 n1, .int .i64 n2, .int .i64 n3, .int .i64 n4, .int .i64 n5, .int .i64 n6, .int .i64 n7, .int .i64 n8, .string b] 53)).drew.ownsRow B 53 9 pv M p.xs) := Lib.hid (dh_last HDA.out.sets HPW.out HMN.out)
  have hbz : B ≤ (V.alloc (.cells #[.int .i64 n1, .int .i64 n2, .int .i64 n3, .int .i64 n4, .int .i64 n5, .int .i64 n6, .int .i64 n7, .int .i64 n8, .string b] 53)).drew.heap.size := Nat.le_of_lt HFA.out.size
  have e1 : (V.alloc (.cells #[.int .i64 n1, .int .i64 n2, .int .i64 n3, .int .i64 n4, .int .i64 n5, .int .i64 n6, .int .i64 n7, .int .i64 n8, .string b] 53)).drew.cell? ⟨X, 0, none⟩ = some (.slice (some ⟨g, 0, none⟩) LS cap) := cell_of HXA.out rfl
  have e2 : (V.alloc (.cells #[.int .i64 n1, .int .i64 n2, .int .i64 n3, .int .i64 n4, .int .i64 n5, .int .i64 n6, .int .i64 n7, .int .i64 n8, .string b] 53)).drew.cell? ⟨g, N * 2 + 1, none⟩ = some pv := (dh_row2 HDA.out.sets.row HLL.out HN.out HPW.out).1
  have HDN : Hid (∀ g2 cap2 w9, World.ownsRow w9 B 53 9 (.slice (some ⟨g2, 0, none⟩) (M + 1) cap2) (M + 1) (p.xs ++ [.int .i64 n1, .int .i64 n2, .int .i64 n3, .int .i64 n4, .int .i64 n5, .int .i64 n6, .int .i64 n7, .int .i64 n8, .string b]) → (V.alloc (.cells #[.int .i64 n1, .int .i64 n2, .int .i64 n3, .int .i64 n4, .int .i64 n5, .int .i64 n6, .int .i64 n7, .int .i64 n8, .string b] 53)).drew.grownBy w9 pv.ownBlock → (pv.ownBlock = some g2 ∨ g2 = (V.alloc (.cells #[.int .i64 n1, .int .i64 n2, .int .i64 n3, .int .i64 n4, .int .i64 n5, .int .i64 n6, .int .i64 n7, .int .i64 n8, .string b] 53)).drew.heap.size) → FI B X v L { c with ss := ontoLast c.ss ([n1, n2, n3, n4, n5, n6, n7, n8], y) } w (w9.setCell ⟨g, N * 2 + 1, none⟩ (.slice (some ⟨g2, 0, none⟩) (M + 1) cap2))) := Lib.hid fun g2 cap2 w9 hown hg hat => by
    obtain ⟨k1, k2⟩ := rule_fin HDA.out HXA.out hbz hBg HCS.out HM0.out HM1.out HLL.out HN.out HPW.out HMN.out HCE.out hown hg hat
    exact HFA.out.turn k2 k1
  clear hba hemp hcs hm0 hm1 hpl hfm hl1' hN hLS hLN hpv2 hM hii hz0 hz1 hz2 hx hd hf hz hb hRV hLn
  conv => arg 2; whnf
  refine wp_region_noPanic ?_
  go_region_law (refine step_append_lies _ rfl _ _ 46 rfl B 53 i0 (.agg #[.int .i64 0, .int .i64 0, .int .i64 0, .int .i64 0, .int .i64 0, .int .i64 0, .int .i64 0, .int .i64 0, .string ⟨#[]⟩]) 9 80 Tryz.underlying46 HI.out HZ0.out HZ1.out HZ2.out rfl (by decide) pv M p.xs rfl HR2.out ⟨V.heap.size, 0, none⟩ 1 1 [.int .i64 n1, .int .i64 n2, .int .i64 n3, .int .i64 n4, .int .i64 n5, .int .i64 n6, .int .i64 n7, .int .i64 n8, .string b] rfl rfl laid_at (by intro u hu; simp at hu; rcases hu with rfl | rfl | rfl | rfl | rfl | rfl | rfl | rfl | rfl <;> rfl) (by decide) (by unfold maxLen; omega) (by omega) hbz _ rfl ?_; intro g2 cap2 w9 hown hg2 hat hlt9; obtain ⟨e3, f3⟩ := dh_row2 (ow_keepT HRA.out (keepT_own HR2.out hg2 (by decide))) HLL.out HN.out HPW.out; have hx9 := XAt.grown HXA.out HR2.out (by decide) hg2; have e4 : w9.cell? ⟨X, 0, none⟩ = some (.slice (some ⟨g, 0, none⟩) LS cap) := cell_of hx9 rfl; have HN9 := Lib.hid (HDN.out g2 cap2 w9 hown hg2 hat); clear hown hg2 hat hx9)
  all_goals exact HQ.out _ _ _ _ _ _ _ _ _ _ _ _ _ _ _ _ _ HN9.out
end Go.Proofs.YthhjgndaiimgjaaGreatDoor
