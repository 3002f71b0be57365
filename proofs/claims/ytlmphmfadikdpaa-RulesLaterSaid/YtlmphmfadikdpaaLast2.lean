/- The walks of rules.Last and of the reference's LastOf. -/
import Derived.Test.YtlmphmfadikdpaaLast
set_option linter.unusedVariables false
namespace Gno
noncomputable def firstE : List Rl → Int
  | [] => 0
  | r :: rest => if r.e ≠ 0 then r.e else firstE rest
theorem firstE_zero : ∀ {rs : List Rl}, firstE rs = 0 → ∀ r ∈ rs, r.e = 0
  | [], _, r, hr => by cases hr
  | q :: rest, h, r, hr => by
    unfold firstE at h
    by_cases hq : q.e ≠ 0
    · rw [if_pos hq] at h; exact absurd h hq
    · rw [if_neg hq] at h
      rcases List.mem_cons.1 hr with rfl | hr
      · omega
      · exact firstE_zero h r hr
theorem firstE_all : ∀ {rs : List Rl}, (∀ r ∈ rs, r.e = 0) → firstE rs = 0
  | [], _ => rfl
  | q :: rest, h => by
    unfold firstE
    rw [if_neg (by have := h q (by simp); omega)]
    exact firstE_all fun r hr => h r (by simp [hr])
theorem firstE_drop {rs : List Rl} {i : Nat} {r : Rl} (hr : rs[i]? = some r) : (r.e ≠ 0 → firstE (rs.drop i) = r.e) ∧ (r.e = 0 → firstE (rs.drop i) = firstE (rs.drop (i + 1))) := by
  have hi : i < rs.length := (List.getElem?_eq_some_iff.1 hr).1
  have he : rs[i] = r := (List.getElem?_eq_some_iff.1 hr).2
  rw [List.drop_eq_getElem_cons hi, he]
  constructor
  · intro h; unfold firstE; rw [if_pos h]
  · intro h; rw [firstE, if_neg (by omega)]
def tOk (t : Int) : Bool := decide (0 ≤ t ∧ t ≤ 1893455999)
theorem tOk_iff (t : Int) : tOk t = true ↔ 0 ≤ t ∧ t ≤ 1893455999 := by unfold tOk; rw [decide_eq_true_iff]
noncomputable def lastE (rs : List Rl) (std t : Int) : Int :=
  if 4 < rs.length then 2 else if firstE rs ≠ 0 then firstE rs else if (stdOk std && tOk t) = false then 3 else if lastB (latest rs std t) = true then 0 else 4
noncomputable def lastK (rs : List Rl) (std t : Int) : Int := if lastE rs std t = 0 then (latest rs std t).1 else 0
noncomputable def lastT (rs : List Rl) (std t : Int) : Int := if lastE rs std t = 0 then (latest rs std t).2 else 0
section
variable {rs : List Rl} {std t : Int}
theorem lastE_many (h : 4 < rs.length) : lastE rs std t = 2 ∧ lastK rs std t = 0 ∧ lastT rs std t = 0 := by
  have e : lastE rs std t = 2 := by unfold lastE; rw [if_pos h]
  refine ⟨e, ?_, ?_⟩
  · unfold lastK; rw [if_neg (by omega)]
  · unfold lastT; rw [if_neg (by omega)]
theorem lastE_rule (h : ¬ 4 < rs.length) (hf : firstE rs ≠ 0) : lastE rs std t = firstE rs ∧ lastK rs std t = 0 ∧ lastT rs std t = 0 := by
  have e : lastE rs std t = firstE rs := by unfold lastE; rw [if_neg h, if_pos hf]
  refine ⟨e, ?_, ?_⟩
  · unfold lastK; rw [if_neg (by omega)]
  · unfold lastT; rw [if_neg (by omega)]
theorem lastE_range (h : ¬ 4 < rs.length) (hf : firstE rs = 0) (hs : (stdOk std && tOk t) = false) : lastE rs std t = 3 ∧ lastK rs std t = 0 ∧ lastT rs std t = 0 := by
  have e : lastE rs std t = 3 := by unfold lastE; rw [if_neg h, if_neg (by omega), if_pos hs]
  refine ⟨e, ?_, ?_⟩
  · unfold lastK; rw [if_neg (by omega)]
  · unfold lastT; rw [if_neg (by omega)]
theorem lastE_none (h : ¬ 4 < rs.length) (hf : firstE rs = 0) (hs : (stdOk std && tOk t) = true) (hl : ¬ 0 ≤ (latest rs std t).1) : lastE rs std t = 4 ∧ lastK rs std t = 0 ∧ lastT rs std t = 0 := by
  have e : lastE rs std t = 4 := by unfold lastE; rw [if_neg h, if_neg (by omega), if_neg (by rw [hs]; simp), if_neg (by unfold lastB; simp; omega)]
  refine ⟨e, ?_, ?_⟩
  · unfold lastK; rw [if_neg (by omega)]
  · unfold lastT; rw [if_neg (by omega)]
theorem lastE_ok (h : ¬ 4 < rs.length) (hf : firstE rs = 0) (hs : (stdOk std && tOk t) = true) (hl : 0 ≤ (latest rs std t).1) : lastE rs std t = 0 ∧ lastK rs std t = (latest rs std t).1 ∧ lastT rs std t = (latest rs std t).2 := by
  have e : lastE rs std t = 0 := by unfold lastE; rw [if_neg h, if_neg (by omega), if_neg (by rw [hs]; simp), if_pos (by unfold lastB; simp; omega)]
  refine ⟨e, ?_, ?_⟩
  · unfold lastK; rw [if_pos e]
  · unfold lastT; rw [if_pos e]
end
end Gno
namespace Go.Proofs.Ytlmphmfadikdpaa
open Go.RowKit Gno
theorem ret_iii {a b c a' b' c' : Int} (h : a = a') (h2 : b = b') (h3 : c = c') : Ending.returned (.tuple #[.int .i64 a, .int .i64 b, .int .i64 c]) = .returned (.tuple #[.int .i64 a', .int .i64 b', .int .i64 c']) := by rw [h, h2, h3]

set_option maxRecDepth 100000 in
set_option maxHeartbeats 4000000 in
theorem lastP_any (A : Option Addr) (n cap : Nat) (rs : List Rl) (std t : Int) (w : World) (hR : RulesAt w w.heap.size A n rs) :
    Calls Try.prog 40 #[.slice A n cap, .int .i64 std, .int .i64 t] w fun e w' => e = .returned (.tuple #[.int .i64 (lastK rs std t), .int .i64 (lastT rs std t), .int .i64 (lastE rs std t)]) ∧ Below w.heap.size w w' := by
  have hn : n ≤ 9223372036854775807 := hR.2.1
  have hlen := hR.1
  by_cases hm : 4 < n
  · have HX := Lib.hid (lastE_many (std := std) (t := t) (by omega : 4 < rs.length))
    clear hR hlen
    go_enter Try.func40, Try.ntmps40
    go_wp2
    go_ret3
    exact ⟨ret_iii HX.out.2.1.symm HX.out.2.2.symm HX.out.1.symm, Below.refl _ _⟩
  · have hm' : ¬ 4 < rs.length := by omega
    have HR := Lib.hid hR
    have HF := Lib.hid (fun h => lastE_rule (std := std) (t := t) hm' h)
    have HG := Lib.hid (fun h1 h2 => lastE_range (std := std) (t := t) hm' h1 h2)
    have HN := Lib.hid (fun h1 h2 h3 => lastE_none (std := std) (t := t) hm' h1 h2 h3)
    have HO := Lib.hid (fun h1 h2 h3 => lastE_ok (std := std) (t := t) hm' h1 h2 h3)
    have HL := Lib.hid hlen
    clear hR hm' hlen
    go_enter Try.func40, Try.ntmps40
    go_wp2
    go_loopw [19] (fun b0 wr => ∃ i : Nat, i ≤ n ∧ b0 = .int .i64 i ∧ Hid (firstE (rs.drop i) = firstE rs) ∧ Below w.heap.size w wr) (fun b0 _ => n - (intOf b0).toNat)
    case atStart => exact ⟨0, Nat.zero_le _, rfl, Lib.hid (by simp), Below.refl _ _⟩
    case round =>
      obtain ⟨i, hi, rfl, hfd, hb⟩ := hrel
      by_cases hlt : i < n
      · have hR2 := HR.out.below hb (Nat.le_refl _)
        obtain ⟨b, o, hA, hbB, hc⟩ := hR2.2.2 (by omega)
        subst hA
        have hl : i < rs.length := by rw [hR2.1]; exact hlt
        obtain ⟨⟨e0, e1, e2, e3, e4, e5, e6, e7, e8⟩, hle⟩ := hc i _ (List.getElem?_eq_getElem hl)
        obtain ⟨r, hr⟩ : ∃ r, r = rs[i] := ⟨_, rfl⟩
        have hri : rs[i]? = some r := by rw [hr]; exact List.getElem?_eq_getElem hl
        rw [← hr] at e0 e1 e2 e3 e4 e5 e6 e7 e8 hle
        have FD := Lib.hid (firstE_drop hri)
        have RC : Hid (∀ w, Calls Try.prog 38 #[.agg #[.int .i64 r.fy, .int .i64 r.ty, .int .i64 r.mo, .int .i64 r.k, .int .i64 r.wk, .int .i64 r.d, .int .i64 r.a, .int .i64 r.sv, .string r.le]] w fun e w' => e = .returned (.int .i64 r.e) ∧ Below w.heap.size w w') := Lib.hid (fun w => rcheck_any r.fy r.ty r.mo r.k r.wk r.d r.a r.sv r.le w hle)
        have hzo : w.heap.size ≤ wr.heap.size := hb.size
        have hbo : b < wr.heap.size := by omega
        have hbx := hb.alloc (hb.size) (.cells #[.int .i64 r.fy, .int .i64 r.ty, .int .i64 r.mo, .int .i64 r.k, .int .i64 r.wk, .int .i64 r.d, .int .i64 r.a, .int .i64 r.sv, .string r.le] 54)
        clear hc hR2 hr hri hl hle
        by_cases he : r.e = 0
        · have heb : (r.e != 0) = false := by simpa using he
          have HX := Lib.hid ((FD.out.2 he).symm.trans hfd.out)
          clear he hfd
          go_wp2_with (go_at_call 38; (with_reducible refine (RC.out _).mono ?_); rintro e w4 ⟨rfl, hb4⟩; have hb5 := hbx.trans (hb4.mono hbx.size); clear hb4)
          go_roundw
          case rel => exact ⟨i + 1, by omega, by go_num, HX, hb5⟩
          case measure => simp [intOf]; omega
        · have heb : (r.e != 0) = true := by simpa using he
          have hfe : firstE rs = r.e := by rw [← hfd.out]; exact FD.out.1 he
          have HX := Lib.hid (HF.out (by rw [hfe]; exact he))
          rw [hfe] at HX
          clear he hfe hfd
          go_wp2_with (go_at_call 38; (with_reducible refine (RC.out _).mono ?_); rintro e w4 ⟨rfl, hb4⟩; have hb5 := hbx.trans (hb4.mono hbx.size); clear hb4)
          go_ret3
          exact ⟨ret_iii HX.out.2.1.symm HX.out.2.2.symm HX.out.1.symm, hb5⟩
      · have hin : i = rs.length := by have := HL.out; omega
        have hf0 : firstE rs = 0 := by rw [← hfd.out, hin, List.drop_length]; rfl
        have hcases : ∀ b : Bool, b = true ∨ b = false := by decide
        have hRb := HR.out.below hb (Nat.le_refl _) |>.more hb.size
        rcases hcases (stdOk std) with hs | hs
        · have hs' := (stdOk_iff std).1 hs
          rcases hcases (tOk t) with ht | ht
          · have ht' := (tOk_iff t).1 ht
            obtain ⟨t1, t2⟩ := ht'
            have LA := Lib.hid (fun w (h : RulesAt w w.heap.size A n rs) => latest_any A n cap rs std t w h (firstE_zero hf0) hs'.1 hs'.2)
            have HN' := Lib.hid (HN.out hf0 (by rw [hs, ht]; rfl))
            have HO' := Lib.hid (HO.out hf0 (by rw [hs, ht]; rfl))
            obtain ⟨c, hc⟩ : ∃ c, c = latest rs std t := ⟨_, rfl⟩
            rw [← hc] at LA HN' HO'
            by_cases hl0 : 0 ≤ c.1
            · have HX := Lib.hid (HO'.out hl0)
              have hl1 : ¬ c.1 < 0 := by omega
              clear hc ht hs' hf0 hin hcases
              go_wp2_with (first
                | (go_at_call 63; refine (fine_any _ _).mono ?_; rintro e w' ⟨rfl, rfl⟩)
                | (go_at_call 70; (with_reducible refine (LA.out _ hRb).mono ?_); rintro e w4 ⟨rfl, hb4⟩; have hb5 := hb.trans (hb4.mono hb.size); clear hb4))
              go_ret3
              exact ⟨ret_iii HX.out.2.1.symm HX.out.2.2.symm HX.out.1.symm, hb5⟩
            · have HX := Lib.hid (HN'.out (by omega))
              have hl1 : c.1 < 0 := by omega
              clear hc ht hs' hf0 hin hcases
              go_wp2_with (first
                | (go_at_call 63; refine (fine_any _ _).mono ?_; rintro e w' ⟨rfl, rfl⟩)
                | (go_at_call 70; (with_reducible refine (LA.out _ hRb).mono ?_); rintro e w4 ⟨rfl, hb4⟩; have hb5 := hb.trans (hb4.mono hb.size); clear hb4))
              go_ret3
              exact ⟨ret_iii HX.out.2.1.symm HX.out.2.2.symm HX.out.1.symm, hb5⟩
          · have HX := Lib.hid (HG.out hf0 (by rw [hs, ht]; rfl))
            by_cases t0 : t < 0
            · clear ht hs' hf0 hin hcases
              go_wp2_with (first
                | (go_at_call 63; refine (fine_any _ _).mono ?_; rintro e w' ⟨rfl, rfl⟩))
              go_ret3
              exact ⟨ret_iii HX.out.2.1.symm HX.out.2.2.symm HX.out.1.symm, hb⟩
            · have t1 : 1893456000 ≤ t := by
                rcases Int.lt_or_le t 1893456000 with q | q
                · rw [(tOk_iff t).2 ⟨by omega, by omega⟩] at ht; cases ht
                · exact q
              clear ht hs' hf0 hin hcases
              go_wp2_with (first
                | (go_at_call 63; refine (fine_any _ _).mono ?_; rintro e w' ⟨rfl, rfl⟩))
              go_ret3
              exact ⟨ret_iii HX.out.2.1.symm HX.out.2.2.symm HX.out.1.symm, hb⟩
        · have HX := Lib.hid (HG.out hf0 (by rw [hs]; rfl))
          clear hf0 hin hcases
          go_wp2_with (first
            | (go_at_call 63; refine (fine_any _ _).mono ?_; rintro e w' ⟨rfl, rfl⟩))
          go_ret3
          exact ⟨ret_iii HX.out.2.1.symm HX.out.2.2.symm HX.out.1.symm, hb⟩

set_option maxRecDepth 100000 in
set_option maxHeartbeats 4000000 in
theorem lastOf_any (A : Option Addr) (n cap : Nat) (rs : List Rl) (std t : Int) (w : World) (hR : RulesAt w w.heap.size A n rs) :
    Calls Try.prog 41 #[.slice A n cap, .int .i64 std, .int .i64 t] w fun e w' => e = .returned (.tuple #[.int .i64 (lastK rs std t), .int .i64 (lastT rs std t), .int .i64 (lastE rs std t)]) ∧ Below w.heap.size w w' := by
  have hn : n ≤ 9223372036854775807 := hR.2.1
  have hlen := hR.1
  by_cases hm : 4 < n
  · have HX := Lib.hid (lastE_many (std := std) (t := t) (by omega : 4 < rs.length))
    clear hR hlen
    go_enter Try.func41, Try.ntmps41
    go_wp2
    go_ret3
    exact ⟨ret_iii HX.out.2.1.symm HX.out.2.2.symm HX.out.1.symm, Below.refl _ _⟩
  · have hm' : ¬ 4 < rs.length := by omega
    have HR := Lib.hid hR
    have HF := Lib.hid (fun h => lastE_rule (std := std) (t := t) hm' h)
    have HG := Lib.hid (fun h1 h2 => lastE_range (std := std) (t := t) hm' h1 h2)
    have HN := Lib.hid (fun h1 h2 h3 => lastE_none (std := std) (t := t) hm' h1 h2 h3)
    have HO := Lib.hid (fun h1 h2 h3 => lastE_ok (std := std) (t := t) hm' h1 h2 h3)
    have HL := Lib.hid hlen
    clear hR hm' hlen
    go_enter Try.func41, Try.ntmps41
    go_wp2
    go_loopw [9] (fun b0 wr => ∃ i : Nat, i ≤ n ∧ b0 = .int .i64 i ∧ Hid (firstE (rs.drop i) = firstE rs) ∧ Below w.heap.size w wr) (fun b0 _ => n - (intOf b0).toNat)
    case atStart => exact ⟨0, Nat.zero_le _, rfl, Lib.hid (by simp), Below.refl _ _⟩
    case round =>
      obtain ⟨i, hi, rfl, hfd, hb⟩ := hrel
      by_cases hlt : i < n
      · have hR2 := HR.out.below hb (Nat.le_refl _)
        obtain ⟨b, o, hA, hbB, hc⟩ := hR2.2.2 (by omega)
        subst hA
        have hl : i < rs.length := by rw [hR2.1]; exact hlt
        obtain ⟨⟨e0, e1, e2, e3, e4, e5, e6, e7, e8⟩, hle⟩ := hc i _ (List.getElem?_eq_getElem hl)
        obtain ⟨r, hr⟩ : ∃ r, r = rs[i] := ⟨_, rfl⟩
        have hri : rs[i]? = some r := by rw [hr]; exact List.getElem?_eq_getElem hl
        rw [← hr] at e0 e1 e2 e3 e4 e5 e6 e7 e8 hle
        have FD := Lib.hid (firstE_drop hri)
        have RC : Hid (∀ w, Calls Try.prog 39 #[.agg #[.int .i64 r.fy, .int .i64 r.ty, .int .i64 r.mo, .int .i64 r.k, .int .i64 r.wk, .int .i64 r.d, .int .i64 r.a, .int .i64 r.sv, .string r.le]] w fun e w' => e = .returned (.int .i64 r.e) ∧ Below w.heap.size w w') := Lib.hid (fun w => checkRule_any r.fy r.ty r.mo r.k r.wk r.d r.a r.sv r.le w hle)
        have hzo : w.heap.size ≤ wr.heap.size := hb.size
        have hbo : b < wr.heap.size := by omega
        clear hc hR2 hr hri hl hle
        by_cases he : r.e = 0
        · have heb : (r.e != 0) = false := by simpa using he
          have HX := Lib.hid ((FD.out.2 he).symm.trans hfd.out)
          clear he hfd
          go_wp2_with (go_at_call 39; (with_reducible refine (RC.out _).mono ?_); rintro e w4 ⟨rfl, hb4⟩; have hb5 := hb.trans (hb4.mono hb.size); clear hb4)
          go_roundw
          case rel => exact ⟨i + 1, by omega, by go_num, HX, hb5⟩
          case measure => simp [intOf]; omega
        · have heb : (r.e != 0) = true := by simpa using he
          have hfe : firstE rs = r.e := by rw [← hfd.out]; exact FD.out.1 he
          have HX := Lib.hid (HF.out (by rw [hfe]; exact he))
          rw [hfe] at HX
          clear he hfe hfd
          go_wp2_with (go_at_call 39; (with_reducible refine (RC.out _).mono ?_); rintro e w4 ⟨rfl, hb4⟩; have hb5 := hb.trans (hb4.mono hb.size); clear hb4)
          go_ret3
          exact ⟨ret_iii HX.out.2.1.symm HX.out.2.2.symm HX.out.1.symm, hb5⟩
      · have hin : i = rs.length := by have := HL.out; omega
        have hf0 : firstE rs = 0 := by rw [← hfd.out, hin, List.drop_length]; rfl
        have hcases : ∀ b : Bool, b = true ∨ b = false := by decide
        have hRb := HR.out.below hb (Nat.le_refl _) |>.more hb.size
        rcases hcases (stdOk std) with hs | hs
        · have hs' := (stdOk_iff std).1 hs
          rcases hcases (tOk t) with ht | ht
          · have ht' := (tOk_iff t).1 ht
            have htb : timeOk t = true := ht
            obtain ⟨t1, t2⟩ := ht'
            have LA := Lib.hid (fun w (h : RulesAt w w.heap.size A n rs) => last_any A n cap rs std t w h (firstE_zero hf0) hs'.1 hs'.2)
            have HN' := Lib.hid (HN.out hf0 (by rw [hs, ht]; rfl))
            have HO' := Lib.hid (HO.out hf0 (by rw [hs, ht]; rfl))
            obtain ⟨c, hc⟩ : ∃ c, c = latest rs std t := ⟨_, rfl⟩
            rw [← hc] at LA HN' HO'
            by_cases hl0 : 0 ≤ c.1
            · have HX := Lib.hid (HO'.out hl0)
              have hl1 : lastB c = true := by simp [lastB, hl0]
              have hr1 : lastR c = c.1 := by simp [lastR, hl0]
              have hr2 : lastW c = c.2 := by simp [lastW, hl0]
              have HR1 := Lib.hid hr1
              have HR2 := Lib.hid hr2
              clear hr1 hr2
              clear hc ht hs' hf0 hin hcases
              go_wp2_with (first
                | (go_at_call 65; refine (isStd_any _ _).mono ?_; rintro e w' ⟨rfl, rfl⟩)
                | (go_at_call 71; refine (isTime_any _ _).mono ?_; rintro e w' ⟨rfl, rfl⟩)
                | (go_at_call 72; (with_reducible refine (LA.out _ hRb).mono ?_); rintro e w4 ⟨rfl, hb4⟩; have hb5 := hb.trans (hb4.mono hb.size); clear hb4))
              go_ret3
              exact ⟨ret_iii (HR1.out.trans HX.out.2.1.symm) (HR2.out.trans HX.out.2.2.symm) HX.out.1.symm, hb5⟩
            · have HX := Lib.hid (HN'.out (by omega))
              have hl1 : lastB c = false := by simp [lastB]; omega
              clear hc ht hs' hf0 hin hcases
              go_wp2_with (first
                | (go_at_call 65; refine (isStd_any _ _).mono ?_; rintro e w' ⟨rfl, rfl⟩)
                | (go_at_call 71; refine (isTime_any _ _).mono ?_; rintro e w' ⟨rfl, rfl⟩)
                | (go_at_call 72; (with_reducible refine (LA.out _ hRb).mono ?_); rintro e w4 ⟨rfl, hb4⟩; have hb5 := hb.trans (hb4.mono hb.size); clear hb4))
              go_ret3
              exact ⟨ret_iii HX.out.2.1.symm HX.out.2.2.symm HX.out.1.symm, hb5⟩
          · have HX := Lib.hid (HG.out hf0 (by rw [hs, ht]; rfl))
            have htb : timeOk t = false := ht
            clear ht hs' hf0 hin hcases
            go_wp2_with (first
              | (go_at_call 65; refine (isStd_any _ _).mono ?_; rintro e w' ⟨rfl, rfl⟩)
              | (go_at_call 71; refine (isTime_any _ _).mono ?_; rintro e w' ⟨rfl, rfl⟩))
            go_ret3
            exact ⟨ret_iii HX.out.2.1.symm HX.out.2.2.symm HX.out.1.symm, hb⟩
        · have HX := Lib.hid (HG.out hf0 (by rw [hs]; rfl))
          clear hf0 hin hcases
          go_wp2_with (first
            | (go_at_call 65; refine (isStd_any _ _).mono ?_; rintro e w' ⟨rfl, rfl⟩)
            | (go_at_call 71; refine (isTime_any _ _).mono ?_; rintro e w' ⟨rfl, rfl⟩))
          go_ret3
          exact ⟨ret_iii HX.out.2.1.symm HX.out.2.2.symm HX.out.1.symm, hb⟩

end Go.Proofs.Ytlmphmfadikdpaa
