/- Parts of a proof, laid together. -/
import Derived.Test.YtlngalmdidaahaaGreatDoorMUMostP13
set_option linter.unusedSimpArgs false
set_option linter.unusedVariables false
/-! A set of two rules, and what holds of it. -/
section
set_option linter.unusedVariables false
set_option linter.unusedSimpArgs false
namespace Gno
def sA : Rl := ⟨1980, 2029, 3, 2, 0, 0, 7200, 3600, ⟨#[68]⟩⟩
def sB : Rl := ⟨1980, 2029, 10, 2, 0, 0, 7200, 0, ⟨#[83]⟩⟩
def springs : List Rl := [sA, sB]
theorem last_fine {y m w : Int} (hy : isYM y m = true) (h1 : 0 ≤ w) (h2 : w ≤ 6) : findE y m 2 w 0 = 0 := by
  have hym : (1970 ≤ y ∧ y ≤ 2029) ∧ (1 ≤ m ∧ m ≤ 12) := by simpa [isYM, isYear, isMonth] using hy
  have l := last_is w 0 (pick1 y m) (size y m) h1 h2
  have ho : onE 2 w 0 = 0 := by unfold onE; simp; omega
  unfold findE
  rw [if_neg (by omega), if_neg (by rw [hy]; simp), if_neg]
  unfold findR
  omega
theorem spring_years (m : Int) (h1 : 1 ≤ m) (h2 : m ≤ 12) : yearsOk 1980 2029 m 2 0 0 := fun z h3 h4 => last_fine (by simp [isYM, isYear, isMonth]; omega) (by omega) (by omega)
theorem sA_ok : sA.e = 0 := ruleE_ok rfl rfl (by decide) (spring_years 3 (by omega) (by omega))
theorem sB_ok : sB.e = 0 := ruleE_ok rfl rfl (by decide) (spring_years 10 (by omega) (by omega))
theorem sX_e : ruleE 1980 2029 3 2 0 0 7200 3600 ⟨#[49]⟩ = 5 := ruleE_let rfl rfl (by decide)
theorem springs_ok : firstE springs = 0 := firstE_all fun r hr => by
  rcases List.mem_cons.1 hr with rfl | hr
  · exact sA_ok
  · rcases List.mem_cons.1 hr with rfl | hr
    · exact sB_ok
    · cases hr
theorem sA_at : atN 1980 2029 3 2 0 0 7200 3600 ⟨#[68]⟩ 2020 3600 = 1585443600 ∧ atE 1980 2029 3 2 0 0 7200 3600 ⟨#[68]⟩ 2020 3600 = 0 := by
  have h : ruleE 1980 2029 3 2 0 0 7200 3600 ⟨#[68]⟩ = 0 := sA_ok
  unfold atN atE
  have hn : ¬ (ruleE 1980 2029 3 2 0 0 7200 3600 ⟨#[68]⟩ ≠ 0) := fun x => x h
  have hp : ((1980 : Int) ≤ 2020 ∧ (2020 : Int) ≤ 2029) ∧ stdOk 3600 = true := ⟨by omega, rfl⟩
  rw [if_neg hn, if_neg hn, if_pos hp, if_pos hp]
  exact ⟨by decide, rfl⟩
/-- the last year of a rule of the set that has begun. -/
theorem spring_top (m a : Int) (h1 : 1 ≤ m) (h2 : m ≤ 12) (std t y : Int) (hy1 : 1980 ≤ y) (hy2 : y ≤ 2029) (hle : beginN y m 2 0 0 a std ≤ t) (hgt : y < 2029 → t < beginN (y + 1) m 2 0 0 a std) :
    topOf (fun y => beginN y m 2 0 0 a std) 1980 2029 t = some (beginN y m 2 0 0 a std) := by
  refine topOf_some ⟨y, hy1, hy2, rfl, hle, fun z q1 q2 => ?_⟩
  have h := hgt (by omega)
  rcases Int.lt_or_le (y + 1) z with q | q
  · have := beginN_lt (a := a) (std := std) (lo := 1980) (hi := 2029) (spring_years m h1 h2) (y := y + 1) (z := z) (by omega) q q2
    show t < beginN z m 2 0 0 a std
    omega
  · obtain rfl : z = y + 1 := by omega
    exact h
theorem latest2 (r q : Rl) (std t : Int) : latest [r, q] std t = lstep 1 (lstep 0 (-1, 0) (r.top std t)) (q.top std t) := rfl
theorem spring_one : latest springs 3600 1585443600 = (0, 1585443600) := by
  rw [springs, latest2]
  have e1 : sA.top 3600 1585443600 = some 1585443600 := spring_top 3 7200 (by omega) (by omega) 3600 1585443600 2020 (by omega) (by omega) (by decide) (fun _ => by decide)
  have e2 : sB.top 3600 1585443600 = some 1572138000 := spring_top 10 7200 (by omega) (by omega) 3600 1585443600 2019 (by omega) (by omega) (by decide) (fun _ => by decide)
  rw [e1, e2]
  rfl
theorem spring_two : (latest springs 3600 1585443599) = (1, 1572138000) := by
  rw [springs, latest2]
  have e1 : sA.top 3600 1585443599 = some 1553994000 := spring_top 3 7200 (by omega) (by omega) 3600 1585443599 2019 (by omega) (by omega) (by decide) (fun _ => by decide)
  have e2 : sB.top 3600 1585443599 = some 1572138000 := spring_top 10 7200 (by omega) (by omega) 3600 1585443599 2019 (by omega) (by omega) (by decide) (fun _ => by decide)
  rw [e1, e2]
  rfl
theorem spring_no (m a : Int) (h1 : 1 ≤ m) (h2 : m ≤ 12) (h : 0 < beginN 1980 m 2 0 0 a 0) : topOf (fun y => beginN y m 2 0 0 a 0) 1980 2029 0 = none := by
  refine topOf_none fun z q1 q2 => ?_
  rcases Int.lt_or_le 1980 z with q | q
  · have := beginN_lt (a := a) (std := 0) (lo := 1980) (hi := 2029) (spring_years m h1 h2) (y := 1980) (z := z) (by omega) q q2
    show 0 < beginN z m 2 0 0 a 0
    omega
  · obtain rfl : z = 1980 := by omega
    exact h
theorem spring_three : latest springs 0 0 = (-1, 0) := by
  rw [springs, latest2]
  have e1 : sA.top 0 0 = none := spring_no 3 7200 (by omega) (by omega) (by decide)
  have e2 : sB.top 0 0 = none := spring_no 10 7200 (by omega) (by omega) (by decide)
  rw [e1, e2]
  rfl
theorem spring_l1 : lastE springs 3600 1585443600 = 0 ∧ lastK springs 3600 1585443600 = 0 ∧ lastT springs 3600 1585443600 = 1585443600 := by
  have h := lastE_ok (rs := springs) (std := 3600) (t := 1585443600) (by decide) springs_ok (by decide) (by rw [spring_one]; decide)
  rw [spring_one] at h
  exact h
theorem spring_l2 : lastE springs 3600 1585443599 = 0 ∧ lastK springs 3600 1585443599 = 1 ∧ lastT springs 3600 1585443599 = 1572138000 := by
  have h := lastE_ok (rs := springs) (std := 3600) (t := 1585443599) (by decide) springs_ok (by decide) (by rw [spring_two]; decide)
  rw [spring_two] at h
  exact h
theorem spring_l3 : lastE springs 0 0 = 4 ∧ lastK springs 0 0 = 0 ∧ lastT springs 0 0 = 0 :=
  lastE_none (rs := springs) (std := 0) (t := 0) (by decide) springs_ok (by decide) (by rw [spring_three]; decide)
end Gno
namespace Go.Proofs.YtlngalmdidaahaaGreatDoor
open Go.RowKit Gno

theorem spring_any (w : World) :
    Calls Tryz.prog 65 #[] w fun e w' => e = .returned (.slice (some ⟨w.heap.size, 0, none⟩) 2 2) ∧
      (w.alloc (.cells #[.int .i64 1980, .int .i64 2029, .int .i64 3, .int .i64 2, .int .i64 0, .int .i64 0, .int .i64 7200, .int .i64 3600, .string ⟨#[68]⟩,
        .int .i64 1980, .int .i64 2029, .int .i64 10, .int .i64 2, .int .i64 0, .int .i64 0, .int .i64 7200, .int .i64 0, .string ⟨#[83]⟩] 53)) = w' := by
  go_enter Tryz.func65, Tryz.ntmps65
  go_wp2
  go_ret
  exact ⟨rfl, rfl⟩
theorem spring_at (w : World) : RulesAt (w.alloc (.cells #[.int .i64 1980, .int .i64 2029, .int .i64 3, .int .i64 2, .int .i64 0, .int .i64 0, .int .i64 7200, .int .i64 3600, .string ⟨#[68]⟩,
        .int .i64 1980, .int .i64 2029, .int .i64 10, .int .i64 2, .int .i64 0, .int .i64 0, .int .i64 7200, .int .i64 0, .string ⟨#[83]⟩] 53)) (w.heap.size + 1) (some ⟨w.heap.size, 0, none⟩) 2 springs := by
  refine ⟨rfl, by decide, fun _ => ⟨w.heap.size, 0, rfl, by omega, fun i r hr => ?_⟩⟩
  match i, hr with
  | 0, hr =>
    obtain rfl : sA = r := by simpa [springs] using hr
    exact ⟨⟨by simp [sA], by simp [sA], by simp [sA], by simp [sA], by simp [sA], by simp [sA], by simp [sA], by simp [sA], by simp [sA]⟩, by decide⟩
  | 1, hr =>
    obtain rfl : sB = r := by simpa [springs] using hr
    exact ⟨⟨by simp [sB], by simp [sB], by simp [sB], by simp [sB], by simp [sB], by simp [sB], by simp [sB], by simp [sB], by simp [sB]⟩, by decide⟩
  | i + 2, hr => simp [springs] at hr
end Go.Proofs.YtlngalmdidaahaaGreatDoor
end
