/- The walk of rules.Latest. -/
import Derived.Test.YtlmphmfadikdpaaLatestPlain
set_option linter.unusedVariables false
namespace Gno
theorem latestTo_none {rs : List Rl} {std t : Int} {i : Nat} {r : Rl} (hr : rs[i]? = some r) (h : ∀ z, r.fy ≤ z → z ≤ r.ty → t < r.g std z) : latestTo rs std t (i + 1) = latestTo rs std t i := by
  simp only [latestTo, hr, Rl.top]
  rw [topOf_none h]
  rfl
theorem latestTo_top {rs : List Rl} {std t : Int} {i : Nat} {r : Rl} {y : Int} (hr : rs[i]? = some r) (h1 : r.fy ≤ y) (h2 : y ≤ r.ty) (h3 : r.g std y ≤ t) (h : ∀ z, y < z → z ≤ r.ty → t < r.g std z) :
    ((latestTo rs std t i).1 < 0 ∨ (latestTo rs std t i).2 ≤ r.g std y → latestTo rs std t (i + 1) = ((i : Int), r.g std y)) ∧
    (¬ ((latestTo rs std t i).1 < 0 ∨ (latestTo rs std t i).2 ≤ r.g std y) → latestTo rs std t (i + 1) = latestTo rs std t i) := by
  have e : latestTo rs std t (i + 1) = lstep i (latestTo rs std t i) (some (r.g std y)) := by
    simp only [latestTo, hr, Rl.top]
    rw [topOf_some ⟨y, h1, h2, rfl, h3, h⟩]
  rw [e]
  rcases lstep_if (i : Int) (r.g std y) (latestTo rs std t i) with ⟨q, e2⟩ | ⟨q, e2⟩
  · exact ⟨fun _ => e2, fun h => absurd q h⟩
  · exact ⟨fun h => absurd h q, fun _ => e2⟩
end Gno
namespace Go.Proofs.Ytlmphmfadikdpaa
open Go.RowKit Gno

set_option maxRecDepth 100000 in
set_option maxHeartbeats 4000000 in
theorem latest_any (A : Option Addr) (n cap : Nat) (rs : List Rl) (std t : Int) (w : World) (hR : RulesAt w w.heap.size A n rs) (hE : ∀ r ∈ rs, r.e = 0) (hs1 : -50400 ≤ std) (hs2 : std ≤ 50400) :
    Calls Try.prog 70 #[.slice A n cap, .int .i64 std, .int .i64 t] w fun e w' => e = .returned (.tuple #[.int .i64 (latest rs std t).1, .int .i64 (latest rs std t).2]) ∧ Below w.heap.size w w' := by
  have hn : n ≤ 9223372036854775807 := hR.2.1
  have HR := Lib.hid hR
  have HE := Lib.hid hE
  clear hR hE
  go_enter Try.func70, Try.ntmps70
  go_wp2
  go_loopw [8, 9, 16] (fun b8 b9 b16 wr => ∃ (i : Nat) (best when_ : Int), i ≤ n ∧ b16 = .int .i64 i ∧ b8 = .int .i64 best ∧ b9 = .int .i64 when_ ∧ (best, when_) = latestTo rs std t i ∧ Below w.heap.size w wr) (fun _ _ b16 _ => n - (intOf b16).toNat)
  case atStart => exact ⟨0, -1, 0, Nat.zero_le _, rfl, rfl, rfl, rfl, Below.refl _ _⟩
  case round =>
    obtain ⟨i, best, when_, hi, rfl, rfl, rfl, hst, hb⟩ := hrel
    have HS := Lib.hid hst
    clear hst
    obtain ⟨wo, hwo⟩ : ∃ wo : World, wo = wr := ⟨_, rfl⟩
    rw [← hwo]
    rw [← hwo] at hb
    clear hwo
    by_cases hlt : i < n
    · have hR2 := HR.out.below hb (Nat.le_refl _)
      obtain ⟨b, o, hA, hbB, hc⟩ := hR2.2.2 (by omega)
      subst hA
      have hl : i < rs.length := by rw [hR2.1]; exact hlt
      obtain ⟨⟨e0, e1, e2, e3, e4, e5, e6, e7, e8⟩, hle⟩ := hc i _ (List.getElem?_eq_getElem hl)
      obtain ⟨r, hr⟩ : ∃ r, r = rs[i] := ⟨_, rfl⟩
      have hri : rs[i]? = some r := by rw [hr]; exact List.getElem?_eq_getElem hl
      have hre := HE.out r (by rw [hr]; exact List.getElem_mem hl)
      rw [← hr] at e0 e1 e2 e3 e4 e5 e6 e7 e8 hle
      obtain ⟨hB, ho, hL, hY⟩ := ruleE_zero hre
      obtain ⟨p1, p2, p3, _, ⟨p6, p7⟩, _⟩ := (ruleBasic_iff _ _ _ _ _).1 hB
      have BG : Hid (∀ y, r.fy ≤ y → y ≤ r.ty → ∀ w, Calls Try.prog 64 #[.agg #[.int .i64 r.fy, .int .i64 r.ty, .int .i64 r.mo, .int .i64 r.k, .int .i64 r.wk, .int .i64 r.d, .int .i64 r.a, .int .i64 r.sv, .string r.le], .int .i64 y, .int .i64 std] w fun e w' => e = .returned (.int .i64 (r.g std y)) ∧ Below w.heap.size w w') := Lib.hid (fun y (h1 : r.fy ≤ y) (h2 : y ≤ r.ty) w => begin9_any r.fy r.ty r.mo r.k r.wk r.d r.a r.sv y std r.le w (hY y h1 h2) p6 p7 hs1 hs2)
      have HLN := Lib.hid (fun h => latestTo_none (t := t) (std := std) hri h)
      have HLT := Lib.hid (fun y h1 h2 h3 h => latestTo_top (t := t) (std := std) (y := y) hri h1 h2 h3 h)
      have hzo : w.heap.size ≤ wo.heap.size := hb.size
      have hbo : b < wo.heap.size := by omega
      clear hc hR2 hr hri hre hB ho hL hY p6 p7 hl
      have hty : 1970 ≤ r.fy ∧ r.ty ≤ 2029 := by omega
      obtain ⟨hfy, hty⟩ := hty
      go_wp2
      go_loopw [8, 9, 12] (fun b8 b9 b12 wr2 => ∃ y : Int, r.fy - 1 ≤ y ∧ y ≤ r.ty ∧ b12 = .int .i64 y ∧ b8 = .int .i64 best ∧ b9 = .int .i64 when_ ∧ Hid (∀ z, y < z → z ≤ r.ty → t < r.g std z) ∧
        Below (wo.heap.size + 1) (wo.alloc (.cells #[.int .i64 r.fy, .int .i64 r.ty, .int .i64 r.mo, .int .i64 r.k, .int .i64 r.wk, .int .i64 r.d, .int .i64 r.a, .int .i64 r.sv, .string r.le] 54)) wr2) (fun _ _ b12 _ => (intOf b12).toNat)
      case atStart => exact ⟨r.ty, by omega, by omega, rfl, rfl, rfl, fun z h1 h2 => by omega, Below.refl _ _⟩
      case round =>
        obtain ⟨y, y1, y2, rfl, rfl, rfl, hnone, hb2⟩ := hrel
        obtain ⟨c0, c1, c2, c3, c4, c5, c6, c7, c8⟩ := box9 hb2
        by_cases hy : r.fy ≤ y
        · by_cases hg : t < r.g std y
          · have hg' : decide (t < r.g std y) = true := by simpa using hg
            have HN : Hid (∀ z, y - 1 < z → z ≤ r.ty → t < r.g std z) := fun z h1 h2 => by
              rcases Int.lt_or_le y z with q | q
              · exact hnone.out z q h2
              · obtain rfl : z = y := by omega
                exact hg
            clear hnone hg
            go_wp2_with (go_at_call 64; (with_reducible refine (BG.out y hy y2 _).mono ?_); rintro e w4 ⟨rfl, hb4⟩; have hb5 := hb2.trans (hb4.mono (box_le hb2)); clear hb4 hb2)
            go_roundw
            case rel => exact ⟨y - 1, by omega, by omega, rfl, rfl, rfl, HN, hb5⟩
            case measure => simp [intOf]; omega
          · have hg' : decide (t < r.g std y) = false := by simpa using hg
            have HT := Lib.hid (HLT.out y hy y2 (by omega) hnone.out)
            rw [← HS.out] at HT
            by_cases hu : best < 0
            · have hu' : decide (best < 0) = true := by simpa using hu
              have HX := Lib.hid (HT.out.1 (.inl hu))
              clear hnone hg HT hu
              go_wp2_with (go_at_call 64; (with_reducible refine (BG.out y hy y2 _).mono ?_); rintro e w4 ⟨rfl, hb4⟩; have hb5 := hb2.trans (hb4.mono (box_le hb2)); clear hb4 hb2)
              go_roundw
              case rel => exact ⟨i + 1, i, r.g std y, by omega, by go_num, rfl, rfl, HX.out.symm, hb.trans ((box_below hb5).mono hzo)⟩
              case measure => simp [intOf]; omega
            · have hu' : decide (best < 0) = false := by simpa using hu
              by_cases hv : when_ ≤ r.g std y
              · have hv' : decide (when_ ≤ r.g std y) = true := by simpa using hv
                have HX := Lib.hid (HT.out.1 (.inr hv))
                clear hnone hg HT hu hv
                go_wp2_with (go_at_call 64; (with_reducible refine (BG.out y hy y2 _).mono ?_); rintro e w4 ⟨rfl, hb4⟩; have hb5 := hb2.trans (hb4.mono (box_le hb2)); clear hb4 hb2)
                go_roundw
                case rel => exact ⟨i + 1, i, r.g std y, by omega, by go_num, rfl, rfl, HX.out.symm, hb.trans ((box_below hb5).mono hzo)⟩
                case measure => simp [intOf]; omega
              · have hv' : decide (when_ ≤ r.g std y) = false := by simpa using hv
                have HX := Lib.hid (HT.out.2 (fun h => h.elim hu hv))
                clear hnone hg HT hu hv
                go_wp2_with (go_at_call 64; (with_reducible refine (BG.out y hy y2 _).mono ?_); rintro e w4 ⟨rfl, hb4⟩; have hb5 := hb2.trans (hb4.mono (box_le hb2)); clear hb4 hb2)
                go_roundw
                case rel => exact ⟨i + 1, best, when_, by omega, by go_num, rfl, rfl, HX.out.symm, hb.trans ((box_below hb5).mono hzo)⟩
                case measure => simp [intOf]; omega
        · have HX := Lib.hid (HLN.out (fun z h1 h2 => hnone.out z (by omega) h2))
          rw [← HS.out] at HX
          clear hnone
          go_wp2
          go_roundw
          case rel => exact ⟨i + 1, best, when_, by omega, by go_num, rfl, rfl, HX.out.symm, hb.trans ((box_below hb2).mono hzo)⟩
          case measure => simp [intOf]; omega
    · have hin : i = rs.length := by have := HR.out.1; omega
      have HX := Lib.hid (show (best, when_) = latest rs std t by unfold latest; rw [HS.out, hin])
      clear hin
      go_wp2
      go_ret2
      exact ⟨by rw [← HX.out]; rfl, hb⟩
end Go.Proofs.Ytlmphmfadikdpaa
