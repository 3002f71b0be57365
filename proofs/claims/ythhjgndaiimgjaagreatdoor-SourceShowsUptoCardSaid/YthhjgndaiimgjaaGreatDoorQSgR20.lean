/- The reference's reader: the numbers of a line of a era. -/
import Derived.Deep.RegionLaw
import Derived.Deep.AppendLies
import Derived.Deep.RegionHeld3
import Derived.Test.YthhjgndaiimgjaaGreatDoorQSgR0
set_option linter.unusedSimpArgs false
set_option linter.unusedVariables false
set_option linter.unusedVariables false
set_option linter.unusedSimpArgs false
set_option maxRecDepth 100000
namespace Go.Proofs.YthhjgndaiimgjaaGreatDoor
open Go.RowKit Gno
attribute [local go_sem] Oper.semAt_some
set_option maxHeartbeats 8000000 in
theorem reg20 {u0 u1 u2 u3 u4 u5 u6 u8 u9 u10 u11 u12 u13 u14 u15 u16 u17 u18 u19 u20 u21 u22 u23 u24 u25 u26 u27 u28 u29 u30 u31 u32 u33 u34 u35 u36 u37 u38 u39 u40 u41 u42 u43 u44 u45 u46 u47 u48 u49 u50 u51 u52 u53 u54 u55 u56 u57 u58 u59 u60 u61 u62 u63 u64 u65 u66 u67 u68 u69 u70 u71 u72 u73 u74 u75 u76 u77 u78 u79 u80 u81 u82 u83 u84 u85 u86 u87 u88 u89 u90 u91 u92 u93 u94 u95 u96 u97 u98 u99 u100 u101 u102 u103 u104 u105 u106 u107 u108 u109 u110 u111 u112 u113 u114 u115 u116 u117 u118 u119 u120 u121 u122 u123 u124 u125 u126 u127 u128 u129 u130 u131 u132 u133 u134 u135 u136 u137 u138 u139 u140 u141 u142 u143 u144 u145 u146 u147 u148 u149 u150 u151 u152 u153 u154 u155 u156 u157 u158 u159 u160 u161 u162 u163 u164 u165 u166 u167 u168 u169 u170 u171 u172 u173 u174 u175 u176 u177 u178 u179 u180 u181 u182 u183 u184 : Value} {Q : Exit → Act → World → Prop} {gw NN capw : Nat} {V : World} {x1 x2 x3 x4 x5 : Bt} (q1 : V.cell? ⟨gw, 1, none⟩ = some (.string (Bs x1))) (q2 : V.cell? ⟨gw, 2, none⟩ = some (.string (Bs x2))) (q3 : V.cell? ⟨gw, 3, none⟩ = some (.string (Bs x3))) (q4 : V.cell? ⟨gw, 4, none⟩ = some (.string (Bs x4))) (q5 : V.cell? ⟨gw, 5, none⟩ = some (.string (Bs x5))) (l1 : x1.length ≤ 5000) (l2 : x2.length ≤ 5000) (l3 : x3.length ≤ 5000) (l5 : x5.length ≤ 5000) (j1 : (1 : Int) < (NN : Int)) (j2 : (2 : Int) < (NN : Int)) (j3 : (3 : Int) < (NN : Int)) (j4 : (4 : Int) < (NN : Int)) (j5 : (5 : Int) < (NN : Int))
    (h : ∀ (v119 v120 v121 v122 v123 v124 v125 v126 v127 v128 v129 v130 v131 v132 v133 v134 v135 v136 v137 v138 : Value), Q .normal { tmps := #[u0, u1, u2, u3, u4, u5, u6, .slice (some ⟨gw, 0, none⟩) NN capw, u8, u9, .pointer (some ⟨V.heap.size, 0, none⟩), u11, u12, u13, u14, u15, u16, u17, u18, u19, u20, u21, u22, u23, u24, u25, u26, u27, u28, u29, u30, u31, u32, u33, u34, u35, u36, u37, u38, u39, u40, u41, u42, u43, u44, u45, u46, u47, u48, u49, u50, u51, u52, u53, u54, u55, u56, u57, u58, u59, u60, u61, u62, u63, u64, u65, u66, u67, u68, u69, u70, u71, u72, u73, u74, u75, u76, u77, u78, u79, u80, u81, u82, u83, u84, u85, u86, u87, u88, u89, u90, u91, u92, u93, u94, u95, u96, u97, u98, u99, u100, u101, u102, u103, u104, u105, u106, u107, u108, u109, u110, u111, u112, u113, u114, u115, u116, u117, u118, v119, v120, v121, v122, v123, v124, v125, v126, v127, v128, v129, v130, v131, v132, v133, v134, v135, v136, v137, v138, u139, u140, u141, u142, u143, u144, u145, u146, u147, u148, u149, u150, u151, u152, u153, u154, u155, u156, u157, u158, u159, u160, u161, u162, u163, u164, u165, u166, u167, u168, u169, u170, u171, u172, u173, u174, u175, u176, u177, u178, u179, u180, u181, u182, u183, u184], defers := [] } (V.alloc (.cells #[.int .i64 (sdI x1), .int .i64 (sdI x2), .int .i64 (sdI x3), .string (Bs x4), .int .i64 (sdI x5)] 59)).drew) :
    (regD 20).wp Tryz.prog Q { tmps := #[u0, u1, u2, u3, u4, u5, u6, .slice (some ⟨gw, 0, none⟩) NN capw, u8, u9, u10, u11, u12, u13, u14, u15, u16, u17, u18, u19, u20, u21, u22, u23, u24, u25, u26, u27, u28, u29, u30, u31, u32, u33, u34, u35, u36, u37, u38, u39, u40, u41, u42, u43, u44, u45, u46, u47, u48, u49, u50, u51, u52, u53, u54, u55, u56, u57, u58, u59, u60, u61, u62, u63, u64, u65, u66, u67, u68, u69, u70, u71, u72, u73, u74, u75, u76, u77, u78, u79, u80, u81, u82, u83, u84, u85, u86, u87, u88, u89, u90, u91, u92, u93, u94, u95, u96, u97, u98, u99, u100, u101, u102, u103, u104, u105, u106, u107, u108, u109, u110, u111, u112, u113, u114, u115, u116, u117, u118, u119, u120, u121, u122, u123, u124, u125, u126, u127, u128, u129, u130, u131, u132, u133, u134, u135, u136, u137, u138, u139, u140, u141, u142, u143, u144, u145, u146, u147, u148, u149, u150, u151, u152, u153, u154, u155, u156, u157, u158, u159, u160, u161, u162, u163, u164, u165, u166, u167, u168, u169, u170, u171, u172, u173, u174, u175, u176, u177, u178, u179, u180, u181, u182, u183, u184], defers := [] } V := by
  have HQ := Lib.hid h
  clear h
  obtain ⟨a1, ha1⟩ : ∃ a, a = Bs x1 := ⟨_, rfl⟩
  rw [← ha1] at q1
  obtain ⟨a2, ha2⟩ : ∃ a, a = Bs x2 := ⟨_, rfl⟩
  rw [← ha2] at q2
  obtain ⟨a3, ha3⟩ : ∃ a, a = Bs x3 := ⟨_, rfl⟩
  rw [← ha3] at q3
  obtain ⟨a4, ha4⟩ : ∃ a, a = Bs x4 := ⟨_, rfl⟩
  rw [← ha4] at q4
  obtain ⟨a5, ha5⟩ : ∃ a, a = Bs x5 := ⟨_, rfl⟩
  rw [← ha5] at q5
  obtain ⟨n1, hn1⟩ : ∃ n, n = sdI x1 := ⟨_, rfl⟩
  have S1 : Hid (∀ w, Calls Tryz.prog 33 #[.string a1] w fun e w' => e = .returned (.int .i64 n1) ∧ w = w') := Lib.hid fun w => by
    have := said_any (Bs x1) w (by rw [Bs_size]; omega)
    rw [hn1, ha1]
    rwa [list_Bs] at this
  obtain ⟨n2, hn2⟩ : ∃ n, n = sdI x2 := ⟨_, rfl⟩
  have S2 : Hid (∀ w, Calls Tryz.prog 33 #[.string a2] w fun e w' => e = .returned (.int .i64 n2) ∧ w = w') := Lib.hid fun w => by
    have := said_any (Bs x2) w (by rw [Bs_size]; omega)
    rw [hn2, ha2]
    rwa [list_Bs] at this
  obtain ⟨n3, hn3⟩ : ∃ n, n = sdI x3 := ⟨_, rfl⟩
  have S3 : Hid (∀ w, Calls Tryz.prog 33 #[.string a3] w fun e w' => e = .returned (.int .i64 n3) ∧ w = w') := Lib.hid fun w => by
    have := said_any (Bs x3) w (by rw [Bs_size]; omega)
    rw [hn3, ha3]
    rwa [list_Bs] at this
  obtain ⟨n5, hn5⟩ : ∃ n, n = sdI x5 := ⟨_, rfl⟩
  have S5 : Hid (∀ w, Calls Tryz.prog 33 #[.string a5] w fun e w' => e = .returned (.int .i64 n5) ∧ w = w') := Lib.hid fun w => by
    have := said_any (Bs x5) w (by rw [Bs_size]; omega)
    rw [hn5, ha5]
    rwa [list_Bs] at this
  rw [← hn1, ← hn2, ← hn3, ← hn5, ← ha4] at HQ
  have ne1 := World.new_ne V.drew ⟨gw, 1, none⟩ q1
  have ne2 := World.new_ne V.drew ⟨gw, 2, none⟩ q2
  have ne3 := World.new_ne V.drew ⟨gw, 3, none⟩ q3
  have ne4 := World.new_ne V.drew ⟨gw, 4, none⟩ q4
  have ne5 := World.new_ne V.drew ⟨gw, 5, none⟩ q5
  clear ha1 ha2 ha3 ha4 ha5 hn1 hn2 hn3 hn5 l1 l2 l3 l5
  conv => arg 2; whnf
  go_region_held3 (fun w' => w'.cell? ⟨gw, 1, none⟩ = some (.string a1) ∧ w'.cell? ⟨gw, 2, none⟩ = some (.string a2) ∧ w'.cell? ⟨gw, 3, none⟩ = some (.string a3) ∧ w'.cell? ⟨gw, 4, none⟩ = some (.string a4) ∧ w'.cell? ⟨gw, 5, none⟩ = some (.string a5)) (refine ⟨?_, ?_, ?_, ?_, ?_⟩ <;> (first | with_reducible assumption | go_keep)) (first
    | (go_at_call 33; (with_reducible refine (S1.out _).mono ?_); rintro e wS ⟨rfl, rfl⟩)
    | (go_at_call 33; (with_reducible refine (S2.out _).mono ?_); rintro e wS ⟨rfl, rfl⟩)
    | (go_at_call 33; (with_reducible refine (S3.out _).mono ?_); rintro e wS ⟨rfl, rfl⟩)
    | (go_at_call 33; (with_reducible refine (S5.out _).mono ?_); rintro e wS ⟨rfl, rfl⟩))
  all_goals exact HQ.out _ _ _ _ _ _ _ _ _ _ _ _ _ _ _ _ _ _ _ _
end Go.Proofs.YthhjgndaiimgjaaGreatDoor
