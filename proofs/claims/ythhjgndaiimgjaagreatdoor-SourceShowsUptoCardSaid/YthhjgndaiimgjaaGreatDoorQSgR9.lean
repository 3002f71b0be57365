/- The reference's reader: a line of a set. -/
import Derived.Deep.RegionLaw
import Derived.Deep.AppendLies
import Derived.Deep.RegionHeld3
import Derived.Test.YthhjgndaiimgjaaGreatDoorQSgR0
set_option linter.unusedSimpArgs false
set_option linter.unusedVariables false
set_option linter.unusedVariables false
set_option linter.unusedSimpArgs false
set_option maxRecDepth 100000
namespace Go.Proofs.YthhjgndaiimgjaaGreatDoor
open Go.RowKit Gno
attribute [local go_sem] Oper.semAt_some
set_option maxHeartbeats 8000000 in
theorem reg9 {u0 u1 u2 u3 u4 u6 u8 u9 u10 u11 u12 u13 u14 u15 u16 u17 u18 u19 u20 u21 u22 u23 u24 u25 u26 u27 u28 u29 u30 u31 u32 u33 u34 u35 u36 u37 u38 u39 u40 u41 u42 u43 u44 u45 u46 u47 u48 u49 u50 u51 u52 u53 u54 u55 u56 u57 u58 u59 u60 u61 u62 u63 u64 u65 u66 u67 u68 u69 u70 u71 u72 u73 u74 u75 u76 u77 u78 u79 u80 u81 u82 u83 u84 u85 u86 u87 u88 u89 u90 u91 u92 u93 u94 u95 u96 u97 u98 u99 u100 u101 u102 u103 u104 u105 u106 u107 u108 u109 u110 u111 u112 u113 u114 u115 u116 u117 u118 u119 u120 u121 u122 u123 u124 u125 u126 u127 u128 u129 u130 u131 u132 u133 u134 u135 u136 u137 u138 u139 u140 u141 u142 u143 u144 u145 u146 u147 u148 u149 u150 u151 u152 u153 u154 u155 u156 u157 u158 u159 u160 u161 u162 u163 u164 u165 u166 u167 u168 u169 u170 u171 u172 u173 u174 u175 u176 u177 u178 u179 u180 u181 u182 u183 u184 : Value} {Q : Exit → Act → World → Prop} {B X gw NN capw i : Nat} {v : Value} {L : List Bt} {c : Cn} {w V : World} {x1 : Bt} (hf : FI B X v L c w V) (hz : CnZ i c) (hi5 : i ≤ 5000) (q1 : V.cell? ⟨gw, 1, none⟩ = some (.string (Bs x1))) (j1 : (1 : Int) < (NN : Int))
    (h : ∀ (v33 v34 v35 v36 v37 v38 v39 v40 v41 : Value) (W : World), FI B X v L { c with ss := c.ss ++ [(x1, [])] } w W → Q .normal { tmps := #[u0, u1, u2, u3, u4, .pointer (some ⟨X, 0, none⟩), u6, .slice (some ⟨gw, 0, none⟩) NN capw, u8, u9, u10, u11, u12, u13, u14, u15, u16, u17, u18, u19, u20, u21, u22, u23, u24, u25, u26, u27, u28, u29, u30, u31, u32, v33, v34, v35, v36, v37, v38, v39, v40, v41, u42, u43, u44, u45, u46, u47, u48, u49, u50, u51, u52, u53, u54, u55, u56, u57, u58, u59, u60, u61, u62, u63, u64, u65, u66, u67, u68, u69, u70, u71, u72, u73, u74, u75, u76, u77, u78, u79, u80, u81, u82, u83, u84, u85, u86, u87, u88, u89, u90, u91, u92, u93, u94, u95, u96, u97, u98, u99, u100, u101, u102, u103, u104, u105, u106, u107, u108, u109, u110, u111, u112, u113, u114, u115, u116, u117, u118, u119, u120, u121, u122, u123, u124, u125, u126, u127, u128, u129, u130, u131, u132, u133, u134, u135, u136, u137, u138, u139, u140, u141, u142, u143, u144, u145, u146, u147, u148, u149, u150, u151, u152, u153, u154, u155, u156, u157, u158, u159, u160, u161, u162, u163, u164, u165, u166, u167, u168, u169, u170, u171, u172, u173, u174, u175, u176, u177, u178, u179, u180, u181, u182, u183, u184], defers := [] } W) :
    (regD 9).wp Tryz.prog Q { tmps := #[u0, u1, u2, u3, u4, .pointer (some ⟨X, 0, none⟩), u6, .slice (some ⟨gw, 0, none⟩) NN capw, u8, u9, u10, u11, u12, u13, u14, u15, u16, u17, u18, u19, u20, u21, u22, u23, u24, u25, u26, u27, u28, u29, u30, u31, u32, u33, u34, u35, u36, u37, u38, u39, u40, u41, u42, u43, u44, u45, u46, u47, u48, u49, u50, u51, u52, u53, u54, u55, u56, u57, u58, u59, u60, u61, u62, u63, u64, u65, u66, u67, u68, u69, u70, u71, u72, u73, u74, u75, u76, u77, u78, u79, u80, u81, u82, u83, u84, u85, u86, u87, u88, u89, u90, u91, u92, u93, u94, u95, u96, u97, u98, u99, u100, u101, u102, u103, u104, u105, u106, u107, u108, u109, u110, u111, u112, u113, u114, u115, u116, u117, u118, u119, u120, u121, u122, u123, u124, u125, u126, u127, u128, u129, u130, u131, u132, u133, u134, u135, u136, u137, u138, u139, u140, u141, u142, u143, u144, u145, u146, u147, u148, u149, u150, u151, u152, u153, u154, u155, u156, u157, u158, u159, u160, u161, u162, u163, u164, u165, u166, u167, u168, u169, u170, u171, u172, u173, u174, u175, u176, u177, u178, u179, u180, u181, u182, u183, u184], defers := [] } V := by
  obtain ⟨vs, vz, vl, ps, pz, hx, hd⟩ := hf.own
  have HQ := Lib.hid h
  have HX8 := Lib.hid hx
  have HD8 := Lib.hid hd
  have HF8 := Lib.hid hf
  obtain ⟨a1, ha1⟩ : ∃ a, a = Bs x1 := ⟨_, rfl⟩
  have HA1 := Lib.hid ha1
  rw [← ha1] at q1
  have hps : ps.length ≤ 5000 := by have := congrArg List.length hd.setsC; simp at this; have := hz.ss; omega
  obtain ⟨i0, hii, hz0, hz1, hz2⟩ := info_parts infoSetP
  have HI := Lib.hid hii
  have HZ0 := Lib.hid hz0
  have HZ1 := Lib.hid hz1
  have HZ2 := Lib.hid hz2
  unfold XAt at hx
  have d0 : V.cell? ⟨X, 0, none⟩ = some vs := cell_of hx rfl
  have hba : Below V.heap.size V (V.alloc (.cells #[.string a1, .slice none 0 0] 48)).drew := ((Below.refl _ _).alloc (Nat.le_refl _) _).trans (Below.refl _ _).drew
  have HXA := Lib.hid (HX8.out.below hba)
  have HDA := Lib.hid (HD8.out.keep (keepD_below hba))
  have HR2 := Lib.hid HDA.out.sets.row
  have HFA := Lib.hid (HF8.out.next hba)
  have hbz : B ≤ (V.alloc (.cells #[.string a1, .slice none 0 0] 48)).drew.heap.size := Nat.le_of_lt HFA.out.size
  have e1 : (V.alloc (.cells #[.string a1, .slice none 0 0] 48)).drew.cell? ⟨X, 0, none⟩ = some vs := cell_of HXA.out rfl
  have HDN : Hid (∀ g2 cap2 w9, World.ownsRow w9 B 48 2 (.slice (some ⟨g2, 0, none⟩) (ps.length + 1) cap2) (ps.length + 1) (rcs ps ++ [.string a1, .slice none 0 0]) → (V.alloc (.cells #[.string a1, .slice none 0 0] 48)).drew.grownBy w9 vs.ownBlock → FI B X v L { c with ss := c.ss ++ [(x1, [])] } w (w9.setCell ⟨X, 0, none⟩ (.slice (some ⟨g2, 0, none⟩) (ps.length + 1) cap2))) := Lib.hid fun g2 cap2 w9 hown hg => by
    rw [HA1.out] at hown
    obtain ⟨k1, k2⟩ := set_fin HDA.out HXA.out hbz (Nat.le_of_lt HFA.out.lt) hown hg
    exact HFA.out.turn k2 k1
  clear hba h hx hd hf hii hz0 hz1 hz2 ha1 hz
  conv => arg 2; whnf
  refine wp_region_noPanic ?_
  go_region_law (refine step_append_lies _ rfl _ _ 22 rfl B 48 i0 (.agg #[.string ⟨#[]⟩, .slice none 0 0]) 2 40 Tryz.underlying22 HI.out HZ0.out HZ1.out HZ2.out rfl (by decide) vs (ps.length) (rcs ps) rfl HR2.out ⟨V.heap.size, 0, none⟩ 1 1 [.string a1, .slice none 0 0] rfl rfl laid_at (by intro u hu; simp at hu; rcases hu with rfl | rfl <;> rfl) (by decide) (by unfold maxLen; omega) (by omega) hbz _ rfl ?_; intro g2 cap2 w9 hown hg2 hat hlt9; have hx9 : XAt X vs vz vl w9 := XAt.grown HXA.out HR2.out (by decide) hg2; have e3 : w9.cell? ⟨X, 0, none⟩ = some vs := cell_of hx9 rfl; have f3 : w9.frozen? ⟨X, 0, none⟩ = false := frozen_of hx9; have HN9 := Lib.hid (HDN.out g2 cap2 w9 hown hg2); clear hx9 hown hg2 hat)
  all_goals exact HQ.out _ _ _ _ _ _ _ _ _ _ HN9.out
end Go.Proofs.YthhjgndaiimgjaaGreatDoor
