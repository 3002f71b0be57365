/- The walk of the reference's last. -/
import Derived.Test.YtlmphmfadikdpaaLatest
set_option linter.unusedVariables false
namespace Gno
/-- how the reference says a state: which rule, when, is there one. -/
def RS (c : Int × Int) (rule when_ : Int) (is_ : Bool) : Prop := (is_ = true ∧ rule = c.1 ∧ when_ = c.2 ∧ 0 ≤ c.1) ∨ (is_ = false ∧ rule = 0 ∧ when_ = 0 ∧ c.1 < 0)
def lastB (c : Int × Int) : Bool := decide (0 ≤ c.1)
def lastR (c : Int × Int) : Int := if 0 ≤ c.1 then c.1 else 0
def lastW (c : Int × Int) : Int := if 0 ≤ c.1 then c.2 else 0
theorem RS.is {c : Int × Int} {rule when_ : Int} {is_ : Bool} (h : RS c rule when_ is_) : is_ = lastB c ∧ rule = lastR c ∧ when_ = lastW c := by
  unfold lastB lastR lastW
  rcases h with ⟨a, b, d, e⟩ | ⟨a, b, d, e⟩
  · rw [if_pos e, if_pos e]; exact ⟨by simp [a, e], b, d⟩
  · rw [if_neg (by omega), if_neg (by omega)]; exact ⟨by simp [a]; omega, b, d⟩
theorem topOf_empty {g : Int → Int} {lo hi t : Int} (h : hi < lo) : topOf g lo hi t = none := topOf_none fun z h1 h2 => by omega
/-- the state where the years ahead of y are gone through. -/
def UpTo (g : Int → Int) (lo t k : Int) (s : Int × Int) (y : Int) (c : Int × Int) : Prop := c = lstep k s (topOf g lo (y - 1) t)
theorem UpTo.start {g : Int → Int} {lo t k : Int} {s : Int × Int} : UpTo g lo t k s lo s := by
  unfold UpTo; rw [topOf_empty (by omega)]; rfl
theorem UpTo.yes {g : Int → Int} {lo t k y : Int} {s c : Int × Int} (h : UpTo g lo t k s y c) (hl : lo ≤ y) (hg : ∀ z, lo ≤ z → z < y → g z < g y) (h1 : g y ≤ t) (hu : c.1 < 0 ∨ c.2 ≤ g y) : UpTo g lo t k s (y + 1) (k, g y) := by
  have e : y - 1 + 1 = y := by omega
  have := lstep_up_yes g lo (y - 1) t k s c h (by omega) (fun z q1 q2 => by rw [e]; exact hg z q1 (by omega)) (by rw [e]; exact h1) (by rw [e]; exact hu)
  rw [e] at this
  unfold UpTo
  rw [show y + 1 - 1 = y by omega, this]
theorem UpTo.no {g : Int → Int} {lo t k y : Int} {s c : Int × Int} (h : UpTo g lo t k s y c) (hl : lo ≤ y) (hg : ∀ z, lo ≤ z → z < y → g z < g y) (hu : ¬ (g y ≤ t ∧ (c.1 < 0 ∨ c.2 ≤ g y))) : UpTo g lo t k s (y + 1) c := by
  have e : y - 1 + 1 = y := by omega
  have := lstep_up_no g lo (y - 1) t k s c h (by omega) (fun z q1 q2 => by rw [e]; exact hg z q1 (by omega)) (by rw [e]; exact hu)
  rw [e] at this
  unfold UpTo
  rw [show y + 1 - 1 = y by omega, this]
theorem latestTo_up {rs : List Rl} {std t y : Int} {i : Nat} {r : Rl} {c : Int × Int} (hr : rs[i]? = some r) (h : UpTo (r.g std) r.fy t i (latestTo rs std t i) y c) (hy : y = r.ty + 1) : c = latestTo rs std t (i + 1) := by
  simp only [latestTo, hr, Rl.top]
  unfold UpTo at h
  rw [h, hy, show r.ty + 1 - 1 = r.ty by omega]
end Gno
namespace Go.Proofs.Ytlmphmfadikdpaa
open Go.RowKit Gno

theorem ret_3 {a b a' b' : Int} {c c' : Bool} (h : a = a') (h2 : b = b') (h3 : c = c') : Ending.returned (.tuple #[.int .i64 a, .int .i64 b, .bool c]) = .returned (.tuple #[.int .i64 a', .int .i64 b', .bool c']) := by rw [h, h2, h3]

set_option maxRecDepth 100000 in
set_option maxHeartbeats 4000000 in
theorem last_any (A : Option Addr) (n cap : Nat) (rs : List Rl) (std t : Int) (w : World) (hR : RulesAt w w.heap.size A n rs) (hE : ∀ r ∈ rs, r.e = 0) (hs1 : -50400 ≤ std) (hs2 : std ≤ 50400) :
    Calls Try.prog 72 #[.slice A n cap, .int .i64 std, .int .i64 t] w fun e w' => e = .returned (.tuple #[.int .i64 (lastR (latest rs std t)), .int .i64 (lastW (latest rs std t)), .bool (lastB (latest rs std t))]) ∧ Below w.heap.size w w' := by
  have hn : n ≤ 9223372036854775807 := hR.2.1
  have HR := Lib.hid hR
  have HE := Lib.hid hE
  clear hR hE
  go_enter Try.func72, Try.ntmps72
  go_wp2
  go_loopw [9, 10, 11, 12] (fun b9 b10 b11 b12 wr => ∃ (i : Nat) (rule when_ : Int) (is_ : Bool), i ≤ n ∧ b12 = .int .i64 i ∧ b9 = .int .i64 rule ∧ b10 = .int .i64 when_ ∧ b11 = .bool is_ ∧ RS (latestTo rs std t i) rule when_ is_ ∧ Below w.heap.size w wr) (fun _ _ _ b12 _ => n - (intOf b12).toNat)
  case atStart => exact ⟨0, 0, 0, false, Nat.zero_le _, rfl, rfl, rfl, rfl, .inr ⟨rfl, rfl, rfl, by simp [latestTo]⟩, Below.refl _ _⟩
  case round =>
    obtain ⟨i, rule, when_, is_, hi, rfl, rfl, rfl, rfl, hst, hb⟩ := hrel
    have HS := Lib.hid hst
    clear hst
    obtain ⟨wo, hwo⟩ : ∃ wo : World, wo = wr := ⟨_, rfl⟩
    rw [← hwo]
    rw [← hwo] at hb
    clear hwo
    by_cases hlt : i < n
    · have hR2 := HR.out.below hb (Nat.le_refl _)
      obtain ⟨b, o, hA, hbB, hc⟩ := hR2.2.2 (by omega)
      subst hA
      have hl : i < rs.length := by rw [hR2.1]; exact hlt
      obtain ⟨hra, hle⟩ := hc i _ (List.getElem?_eq_getElem hl)
      obtain ⟨r, hr⟩ : ∃ r, r = rs[i] := ⟨_, rfl⟩
      have hri : rs[i]? = some r := by rw [hr]; exact List.getElem?_eq_getElem hl
      have hre := HE.out r (by rw [hr]; exact List.getElem_mem hl)
      rw [← hr] at hra hle
      obtain ⟨hB, ho, hL, hY⟩ := ruleE_zero hre
      obtain ⟨p1, p2, p3, _, ⟨p6, p7⟩, _⟩ := (ruleBasic_iff _ _ _ _ _).1 hB
      have BG : Hid (∀ y, r.fy ≤ y → y ≤ r.ty → ∀ w, Calls Try.prog 66 #[.agg #[.int .i64 r.fy, .int .i64 r.ty, .int .i64 r.mo, .int .i64 r.k, .int .i64 r.wk, .int .i64 r.d, .int .i64 r.a, .int .i64 r.sv, .string r.le], .int .i64 y, .int .i64 std] w fun e w' => e = .returned (.int .i64 (r.g std y)) ∧ Below w.heap.size w w') := Lib.hid (fun y (h1 : r.fy ≤ y) (h2 : y ≤ r.ty) w => begins9_any r.fy r.ty r.mo r.k r.wk r.d r.a r.sv y std r.le w (hY y h1 h2) p6 p7 hs1 hs2)
      have HG : Hid (∀ y, y ≤ r.ty → ∀ z, r.fy ≤ z → z < y → r.g std z < r.g std y) := Lib.hid (fun y h1 z h2 h3 => beginN_lt (lo := r.fy) (hi := r.ty) hY h2 h3 h1)
      have HUP := Lib.hid (fun (c : Int × Int) (y : Int) h h2 => latestTo_up (std := std) (t := t) (y := y) (c := c) hri h h2)
      have HUS : Hid (UpTo (r.g std) r.fy t i (latestTo rs std t i) r.fy (latestTo rs std t i)) := UpTo.start
      have hzo : w.heap.size ≤ wo.heap.size := hb.size
      have hbo : b < wo.heap.size := by omega
      have HRA := Lib.hid hra
      obtain ⟨e0, e1, e2, e3, e4, e5, e6, e7, e8⟩ := hra
      clear hc hR2 hr hri hre hB ho hL hY p6 p7 hl
      have hty : 1970 ≤ r.fy ∧ r.ty ≤ 2029 := by omega
      obtain ⟨hfy, hty⟩ := hty
      go_wp2
      go_loopw [9, 10, 11, 13] (fun b9 b10 b11 b13 wr2 => ∃ (y rule when_ : Int) (is_ : Bool) (c : Int × Int), r.fy ≤ y ∧ y ≤ r.ty + 1 ∧ b13 = .int .i64 y ∧ b9 = .int .i64 rule ∧ b10 = .int .i64 when_ ∧ b11 = .bool is_ ∧ RS c rule when_ is_ ∧
        UpTo (r.g std) r.fy t i (latestTo rs std t i) y c ∧ Below wo.heap.size wo wr2) (fun _ _ _ b13 _ => (2030 - intOf b13).toNat)
      case atStart => exact ⟨r.fy, rule, when_, is_, _, by omega, by omega, rfl, rfl, rfl, rfl, HS.out, HUS.out, Below.refl _ _⟩
      case round =>
        obtain ⟨y, rule', when', is', c, y1, y2, rfl, rfl, rfl, rfl, hrs, hup, hb2⟩ := hrel
        have hra2 := HRA.out.below hb2 hbo
        obtain ⟨f0, f1, f2, f3, f4, f5, f6, f7, f8⟩ := hra2
        have HC := Lib.hid hup
        clear hup
        by_cases hy : y ≤ r.ty
        · by_cases hg : r.g std y ≤ t
          · have hg' : decide (r.g std y ≤ t) = true := by simpa using hg
            rcases hrs with ⟨rfl, h2, h3, h4⟩ | ⟨rfl, h2, h3, h4⟩
            · by_cases hv : when' ≤ r.g std y
              · have hv' : decide (when' ≤ r.g std y) = true := by simpa using hv
                have HX := Lib.hid (HC.out.yes y1 (HG.out y hy) hg (.inr (by omega)))
                clear h2 h3 h4 hg hv
                go_wp2_with (go_at_call 66; (with_reducible refine (BG.out y y1 hy _).mono ?_); rintro e w4 ⟨rfl, hb4⟩; have hb5 := hb2.trans (hb4.mono hb2.size); clear hb4 hb2)
                go_roundw
                case rel => exact ⟨y + 1, i, r.g std y, true, (i, r.g std y), by omega, by omega, rfl, rfl, rfl, rfl, .inl ⟨rfl, rfl, rfl, by simp⟩, HX.out, hb5⟩
                case measure => simp [intOf]; omega
              · have hv' : decide (when' ≤ r.g std y) = false := by simpa using hv
                have HX := Lib.hid (HC.out.no y1 (HG.out y hy) (fun q => by omega))
                have HRS : Hid (RS c rule' when' true) := .inl ⟨rfl, h2, h3, h4⟩
                clear h2 h3 h4 hg hv
                go_wp2_with (go_at_call 66; (with_reducible refine (BG.out y y1 hy _).mono ?_); rintro e w4 ⟨rfl, hb4⟩; have hb5 := hb2.trans (hb4.mono hb2.size); clear hb4 hb2)
                go_roundw
                case rel => exact ⟨y + 1, rule', when', true, c, by omega, by omega, rfl, rfl, rfl, rfl, HRS.out, HX.out, hb5⟩
                case measure => simp [intOf]; omega
            · have HX := Lib.hid (HC.out.yes y1 (HG.out y hy) hg (.inl h4))
              clear h2 h3 h4 hg
              go_wp2_with (go_at_call 66; (with_reducible refine (BG.out y y1 hy _).mono ?_); rintro e w4 ⟨rfl, hb4⟩; have hb5 := hb2.trans (hb4.mono hb2.size); clear hb4 hb2)
              go_roundw
              case rel => exact ⟨y + 1, i, r.g std y, true, (i, r.g std y), by omega, by omega, rfl, rfl, rfl, rfl, .inl ⟨rfl, rfl, rfl, by simp⟩, HX.out, hb5⟩
              case measure => simp [intOf]; omega
          · have hg' : decide (r.g std y ≤ t) = false := by simpa using hg
            have HX := Lib.hid (HC.out.no y1 (HG.out y hy) (fun q => hg q.1))
            have HRS := Lib.hid hrs
            clear hrs hg
            go_wp2_with (go_at_call 66; (with_reducible refine (BG.out y y1 hy _).mono ?_); rintro e w4 ⟨rfl, hb4⟩; have hb5 := hb2.trans (hb4.mono hb2.size); clear hb4 hb2)
            go_roundw
            case rel => exact ⟨y + 1, rule', when', is', c, by omega, by omega, rfl, rfl, rfl, rfl, HRS.out, HX.out, hb5⟩
            case measure => simp [intOf]; omega
        · have HX := Lib.hid (HUP.out c y HC.out (by omega))
          have HRS := Lib.hid hrs
          rw [HX.out] at HRS
          clear hrs
          go_wp2
          go_roundw
          case rel => exact ⟨i + 1, rule', when', is', by omega, by go_num, rfl, rfl, rfl, HRS.out, hb.trans (hb2.mono hzo)⟩
          case measure => simp [intOf]; omega
    · have hin : i = rs.length := by have := HR.out.1; omega
      have HX := Lib.hid (show is_ = lastB (latest rs std t) ∧ rule = lastR (latest rs std t) ∧ when_ = lastW (latest rs std t) by unfold latest; rw [← hin]; exact HS.out.is)
      clear hin
      go_wp2
      go_ret3
      exact ⟨ret_3 HX.out.2.1 HX.out.2.2 HX.out.1, hb⟩
end Go.Proofs.Ytlmphmfadikdpaa
