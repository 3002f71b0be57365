/- Parts of a proof, laid together. -/
import Derived.Lib.Strings
import Derived.Test.YtbbbeldbhlehnaaGreatMUsesTellsRow10
import Derived.Test.YtbbbeldbhlehnaaGreatMUsesTellsRow4
set_option linter.unusedSimpArgs false
set_option linter.unusedVariables false
/-! The walks of data.Name and of the reference's IsName. -/
section
set_option linter.unusedVariables false
set_option linter.unusedSimpArgs false
namespace Gno
open Go
/-- does it end in this byte? -/
def ends (s : ByteArray) (b : Int) : Bool := decide (1 ≤ s.size) && decide (PlainAid.bt s (s.size - 1) = b)
theorem extract_one (s : ByteArray) (k : Nat) (h : k < s.size) : (s.extract k (k + 1)).data.toList = [s[k]] := by
  rw [← Lib.toList_data, Lib.extract_toList, List.drop_eq_getElem_cons (by simpa using h), show k + 1 - k = 1 by omega]
  rfl
theorem allLet_one (s : ByteArray) (k : Nat) (h : k < s.size) : allLet (s.extract k (k + 1)) = isLet (PlainAid.bt s k).toNat := by
  unfold allLet
  rw [extract_one s k h]
  have := PlainAid.get_bt s k h
  rw [show (PlainAid.bt s k).toNat = (s[k]).toNat by omega]
  simp
theorem ends_yes (s : ByteArray) (h : 1 ≤ s.size) : ((s.extract (s.size - 1) s.size).toList == [47]) = ends s 47 := by
  have e := extract_one s (s.size - 1) (by omega)
  rw [show s.size - 1 + 1 = s.size by omega] at e
  rw [Lib.toList_data, e]
  have b := PlainAid.get_bt s (s.size - 1) (by omega)
  obtain ⟨v, hv⟩ : ∃ v, v = s[s.size - 1] := ⟨_, rfl⟩
  rw [← hv] at b ⊢
  rw [Bool.eq_iff_iff]
  simp only [ends, h, ← b, decide_true, Bool.true_and, decide_eq_true_iff, beq_iff_eq, List.cons.injEq, and_true]
  constructor
  · intro q; rw [q]; rfl
  · intro q; exact UInt8.toNat_inj.1 (by show v.toNat = 47; omega)
theorem ends_no (s : ByteArray) (b : Int) (h : ¬ 1 ≤ s.size) : ends s b = false := by simp [ends, h]
def allNm (s : ByteArray) : Bool := s.data.toList.all fun b => isNm b.toNat
theorem hasRune_notNm (s : ByteArray) : hasRune notNm s = !allNm s := by
  rw [hasRune_any _ notNm_high, allNm, List.not_all_eq_any_not]
  rfl
/-- is it a name? -/
def nameOk (s : ByteArray) : Bool := decide (1 ≤ s.size ∧ s.size ≤ 12) && (allLet (s.extract 0 1) && (!ends s 47 && allNm s))
theorem allNm_no (s : ByteArray) (k : Nat) (h : k < s.size) (hl : isNm (PlainAid.bt s k).toNat = false) : allNm s = false := by
  have := PlainAid.get_bt s k h
  rw [show (PlainAid.bt s k).toNat = (s[k]).toNat by omega] at hl
  unfold allNm
  rw [List.all_eq_false]
  exact ⟨s.data.toList[k]'(by simpa using h), List.getElem_mem _, by rw [show (s.data.toList[k]'(by simpa using h)) = s[k] from rfl, hl]; simp⟩
def nmTo (s : ByteArray) (k : Nat) : Prop := ((s.data.toList.take k).all fun b => isNm b.toNat) = true
theorem nmTo_snoc (s : ByteArray) (k : Nat) (h : k < s.size) (h0 : nmTo s k) (hl : isNm (PlainAid.bt s k).toNat = true) : nmTo s (k + 1) := by
  have := PlainAid.get_bt s k h
  rw [show (PlainAid.bt s k).toNat = (s[k]).toNat by omega] at hl
  unfold nmTo at h0 ⊢
  rw [take_snoc s k h, List.all_append, h0]
  simp [hl]
theorem nmTo_end (s : ByteArray) (k : Nat) (h : ¬ k < s.size) (h0 : nmTo s k) : allNm s = true := by
  unfold nmTo at h0
  rw [List.take_of_length_le (by simp; omega)] at h0
  exact h0
theorem nameOk_size (s : ByteArray) (h : ¬ (1 ≤ s.size ∧ s.size ≤ 12)) : nameOk s = false := by simp [nameOk, h]
theorem nameOk_is (s : ByteArray) (h1 : 1 ≤ s.size) (h2 : s.size ≤ 12) {a b c : Bool} (ha : allLet (s.extract 0 1) = a) (hb : ends s 47 = b) (hc : allNm s = c) : nameOk s = (a && (!b && c)) := by simp [nameOk, h1, h2, ha, hb, hc]
end Gno
namespace Go.Proofs.YtbbbeldbhlehnaaGreat
open Go.RowKit Gno
set_option maxHeartbeats 2000000 in
theorem suffix0_any (s : ByteArray) (w : World) (hs : s.size ≤ maxLen) :
    Calls Tryz.prog 85 #[.string s, .string ⟨#[47]⟩] w fun e w' => e = .returned (.bool (ends s 47)) ∧ w = w' := by
  unfold maxLen at hs
  by_cases h : 1 ≤ s.size
  · have HE := Lib.hid (ends_yes s h)
    have ht : ((s.size : Int) - 1).toNat = s.size - 1 := by omega
    go_enter Tryz.func85, Tryz.ntmps85
    go_wp2
    go_ret
    exact ⟨ret_bool (by rw [← HE.out]), rfl⟩
  · have HE := Lib.hid (ends_no s 47 h)
    go_enter Tryz.func85, Tryz.ntmps85
    go_wp2
    go_ret
    exact ⟨ret_bool HE.out.symm, rfl⟩
theorem suffix_any (s : ByteArray) (w : World) (hs : s.size ≤ maxLen) :
    Calls Tryz.prog 52 #[.string s, .string ⟨#[47]⟩] w fun e w' => e = .returned (.bool (ends s 47)) ∧ w = w' := by
  have C := Lib.hid (fun w => suffix0_any s w hs)
  clear hs
  go_enter Tryz.func52, Tryz.ntmps52
  go_wp2_with (go_at_call 85; (with_reducible refine (C.out _).mono ?_); rintro e w1 ⟨rfl, rfl⟩)
  go_ret
  exact ⟨rfl, rfl⟩
set_option maxRecDepth 100000 in
set_option maxHeartbeats 2000000 in
theorem name_any (s : ByteArray) (w : World) (hs : s.size ≤ maxLen) :
    Calls Tryz.prog 18 #[.string s] w fun e w' => e = .returned (.bool (nameOk s)) ∧ Below w.heap.size w w' := by
  have C2 := Lib.hid (fun w => suffix_any s w hs)
  have C1 := Lib.hid (fun w => letters_any (s.extract 0 1) w)
  have c3 := fun lb w => containsFunc_any 54 lb (enters_of Tryz.func54 (by kernel_rfl) rfl) notNm s w
  simp only [hasRune_notNm] at c3
  have C3 := Lib.hid c3
  clear c3
  have SZ := Lib.hid (nameOk_size s)
  have hsf := fun (a : Addr) (c : Array Value) (w : World) => run_store Tryz.prog w a (.func (.func 50) #[] c) .plain rfl
  have hmf : ∀ (fn : Fn) (first cap : Array Value) (w : World), (Instr.makeFunc fn first cap).run Tryz.prog w = .ok (.func fn first cap) w := fun _ _ _ _ => rfl
  have hba : Hid (∀ w1, Below (w.alloc (.cells #[.func (.func 50) #[] #[]] 71)).heap.size (w.alloc (.cells #[.func (.func 50) #[] #[]] 71)) w1 → Below w.heap.size w w1) :=
    Lib.hid (fun w1 hb1 => ((Below.refl _ _).alloc (Nat.le_refl _) _).trans (hb1.mono (by simp)))
  have HP : Hid (∀ w1, Below (w.alloc (.cells #[.func (.func 50) #[] #[]] 71)).heap.size (w.alloc (.cells #[.func (.func 50) #[] #[]] 71)) w1 →
      PredG Tryz.prog 54 #[.pointer (some ⟨w.heap.size, 0, none⟩)] notNm w1) := Lib.hid (fun w1 hb1 W x hx hbW => by
    have c1 : w1.cell? ⟨w.heap.size, 0, none⟩ = some (.func (.func 50) #[] #[]) := (hb1.cell (by simp)).trans (by first | (simp [go_sem]; done) | go_simp)
    have hl : w.heap.size < w1.heap.size := by have := hb1.size; simp at this; omega
    exact name2_any w.heap.size x W hx ((hbW.cell hl).trans c1))
  have OK := Lib.hid (fun h1 h2 (a b c : Bool) ha hb hc => nameOk_is s h1 h2 (a := a) (b := b) (c := c) ha hb hc)
  unfold maxLen at hs
  by_cases h1 : 1 ≤ s.size
  · by_cases h2 : s.size ≤ 12
    · have HX := Lib.hid (OK.out h1 h2 _ _ _ rfl rfl rfl)
      clear OK SZ
      obtain ⟨a, ha⟩ : ∃ a, a = allLet (s.extract 0 1) := ⟨_, rfl⟩
      obtain ⟨b, hb⟩ : ∃ b, b = ends s 47 := ⟨_, rfl⟩
      obtain ⟨c, hc⟩ : ∃ c, c = allNm s := ⟨_, rfl⟩
      rw [← ha] at C1 HX
      rw [← hb] at C2 HX
      rw [← hc] at C3 HX
      clear ha hb hc
      obtain ⟨x, hx⟩ : ∃ x, x = nameOk s := ⟨_, rfl⟩
      rw [← hx] at HX ⊢
      clear hx
      cases a <;> cases b
      all_goals
        go_enter Tryz.func18, Tryz.ntmps18
        go_wp2_with (first
          | (go_at_call 51; (with_reducible refine (C1.out _).mono ?_); rintro e w1 ⟨rfl, hb1⟩)
          | (go_at_call 52; (with_reducible refine (C2.out _).mono ?_); rintro e w2 ⟨rfl, rfl⟩)
          | (go_at_call 53; (with_reducible refine (C3.out _ _ (HP.out _ hb1)).mono ?_); rintro e w3 ⟨rfl, hb3⟩))
        go_ret
        exact ⟨ret_bool (by rw [HX.out] <;> simp), by first | exact (hba.out _ hb1).trans (hb3.mono (hba.out _ hb1).size) | exact hba.out _ hb1⟩
    · have HX := Lib.hid (SZ.out (by omega))
      clear OK SZ C1 C2 C3 hba HP
      go_enter Tryz.func18, Tryz.ntmps18
      go_wp2
      go_ret
      exact ⟨ret_bool HX.out.symm, (Below.refl _ _).alloc (Nat.le_refl _) _⟩
  · have HX := Lib.hid (SZ.out (by omega))
    have h0 : s.size = 0 := by omega
    clear OK SZ C1 C2 C3 hba HP
    go_enter Tryz.func18, Tryz.ntmps18
    go_wp2
    go_ret
    exact ⟨ret_bool HX.out.symm, (Below.refl _ _).alloc (Nat.le_refl _) _⟩
end Go.Proofs.YtbbbeldbhlehnaaGreat
end
/-! The walk of the reference's IsName. -/
section
set_option linter.unusedVariables false
set_option linter.unusedSimpArgs false
namespace Gno
theorem isNm_no {v : Int} (h0 : 0 ≤ v) (h : isNm v.toNat = false) : isLet v.toNat = false ∧ ¬ (48 ≤ v ∧ v ≤ 57) ∧ v ≠ 47 ∧ v ≠ 95 ∧ v ≠ 43 ∧ v ≠ 45 := by
  simp only [isNm, Bool.or_eq_false_iff, decide_eq_false_iff_not] at h
  obtain ⟨⟨⟨⟨⟨a, b⟩, c⟩, d⟩, e⟩, f⟩ := h
  exact ⟨a, by omega, by omega, by omega, by omega, by omega⟩
theorem isNm_yes {v : Int} (h0 : 0 ≤ v) (h : isNm v.toNat = true) (hl : isLet v.toNat = false) : (48 ≤ v ∧ v ≤ 57) ∨ v = 47 ∨ v = 95 ∨ v = 43 ∨ v = 45 := by
  simp [isNm, hl] at h
  omega
end Gno
namespace Go.Proofs.YtbbbeldbhlehnaaGreat
open Go.RowKit Gno
set_option maxRecDepth 100000 in
set_option maxHeartbeats 4000000 in
theorem isName_any (s : ByteArray) (w : World) (hs : s.size ≤ maxLen) :
    Calls Tryz.prog 23 #[.string s] w fun e w' => e = .returned (.bool (nameOk s)) ∧ w = w' := by
  unfold maxLen at hs
  have SZ := Lib.hid (nameOk_size s)
  have OK := Lib.hid (fun h1 h2 (a b c : Bool) ha hb hc => nameOk_is s h1 h2 (a := a) (b := b) (c := c) ha hb hc)
  have W := Lib.hid (fun w => within_any (s.size : Int) 1 12 w)
  by_cases h1 : 1 ≤ s.size
  · by_cases h2 : s.size ≤ 12
    · have hw : withinB (s.size : Int) 1 12 = true := (withinB_iff _ _ _).2 (by omega)
      rw [hw] at W
      have C1 := Lib.hid (fun w => lettersR_any (s.extract 0 1) w (by simp [maxLen]; omega))
      have HX := Lib.hid (OK.out h1 h2 _ _ _ rfl rfl rfl)
      obtain ⟨a, ha⟩ : ∃ a, a = allLet (s.extract 0 1) := ⟨_, rfl⟩
      rw [← ha] at C1 HX
      have hbt := PlainAid.get_bt s
      have he : ends s 47 = decide (PlainAid.bt s (s.size - 1) = 47) := by simp [ends, h1]
      rw [he] at HX
      clear SZ OK hw ha he
      cases a
      · go_enter Tryz.func23, Tryz.ntmps23
        go_wp2_with (first
          | (go_at_call 43; (with_reducible refine (W.out _).mono ?_); rintro e w1 ⟨rfl, rfl⟩)
          | (go_at_call 59; (with_reducible refine (C1.out _).mono ?_); rintro e w1 ⟨rfl, rfl⟩))
        go_ret
        exact ⟨ret_bool (by rw [HX.out] <;> simp), rfl⟩
      · by_cases hz : PlainAid.bt s (s.size - 1) = 47
        · go_enter Tryz.func23, Tryz.ntmps23
          go_wp2_with (first
            | (go_at_call 43; (with_reducible refine (W.out _).mono ?_); rintro e w1 ⟨rfl, rfl⟩)
            | (go_at_call 59; (with_reducible refine (C1.out _).mono ?_); rintro e w1 ⟨rfl, rfl⟩))
          go_ret
          exact ⟨ret_bool (by rw [HX.out] <;> simp [hz]), rfl⟩
        · have HY : Hid (nameOk s = allNm s) := Lib.hid (by rw [HX.out]; simp [hz])
          have hzb : (PlainAid.bt s (s.size - 1) == 47) = false := by simpa using hz
          clear HX hz
          go_enter Tryz.func23, Tryz.ntmps23
          go_wp2_with (first
            | (go_at_call 43; (with_reducible refine (W.out _).mono ?_); rintro e w1 ⟨rfl, rfl⟩)
            | (go_at_call 59; (with_reducible refine (C1.out _).mono ?_); rintro e w1 ⟨rfl, rfl⟩))
          try simp only [hzb]
          clear hzb
          go_loop [3] (fun i => ∃ k : Nat, k ≤ s.size ∧ i = .int .i64 k ∧ nmTo s k) (fun i => s.size - (intOf i).toNat)
          case atStart => exact ⟨0, Nat.zero_le _, rfl, by simp [nmTo]⟩
          case round =>
            obtain ⟨k, hk, rfl, h0⟩ := hrel
            have H0 := Lib.hid h0
            clear h0
            by_cases hlt : k < s.size
            · have l1 := fun w => lettersR_any (s.extract k (k + 1)) w (by simp [maxLen]; omega)
              rw [allLet_one s k hlt] at l1
              have L1 := Lib.hid l1
              have hb0 := PlainAid.bt_nonneg s k
              have hb1 := PlainAid.bt_le s k
              have HN := Lib.hid (nmTo_snoc s k hlt H0.out)
              have HO := Lib.hid (allNm_no s k hlt)
              clear l1
              cases hn : isNm (PlainAid.bt s k).toNat
              · have HE := Lib.hid (HY.out.trans (HO.out hn))
                obtain ⟨q0, q1, q2, q3, q4, q5⟩ := isNm_no hb0 hn
                rw [q0] at L1
                clear hn q0
                have b2 : (PlainAid.bt s k != 47) = true := by simpa using q2
                have b3 : (PlainAid.bt s k != 95) = true := by simpa using q3
                have b4 : (PlainAid.bt s k != 43) = true := by simpa using q4
                have b5 : (PlainAid.bt s k != 45) = true := by simpa using q5
                clear q2 q3 q4 q5
                by_cases q6 : 48 ≤ PlainAid.bt s k
                · have q7 : decide (PlainAid.bt s k ≤ 57) = false := by simp; omega
                  clear q1
                  go_wp2_with (first | (go_at_call 59; (with_reducible refine (L1.out _).mono ?_); rintro e w1 ⟨rfl, rfl⟩))
                  go_ret
                  exact ⟨ret_bool HE.out.symm, rfl⟩
                · clear q1
                  go_wp2_with (first | (go_at_call 59; (with_reducible refine (L1.out _).mono ?_); rintro e w1 ⟨rfl, rfl⟩))
                  go_ret
                  exact ⟨ret_bool HE.out.symm, rfl⟩
              · have HE := Lib.hid (HN.out hn)
                cases hl : isLet (PlainAid.bt s k).toNat
                · have q := isNm_yes hb0 hn hl
                  rw [hl] at L1
                  clear hn hl
                  by_cases q1 : 48 ≤ PlainAid.bt s k ∧ PlainAid.bt s k ≤ 57
                  · obtain ⟨q2, q3⟩ := q1
                    clear q
                    go_wp2_with (first | (go_at_call 59; (with_reducible refine (L1.out _).mono ?_); rintro e w1 ⟨rfl, rfl⟩))
                    go_round
                    case rel => exact ⟨k + 1, by omega, by go_num, HE.out⟩
                    case measure => simp [intOf]; omega
                  · have q2 := q.resolve_left q1
                    clear q q1
                    rcases q2 with q2 | q2 | q2 | q2
                    · have f0 : ¬ 48 ≤ PlainAid.bt s k := by omega
                      have f2 : (PlainAid.bt s k != 47) = false := by simp; omega
                      clear q2
                      go_wp2_with (first | (go_at_call 59; (with_reducible refine (L1.out _).mono ?_); rintro e w1 ⟨rfl, rfl⟩))
                      go_round
                      case rel => exact ⟨k + 1, by omega, by go_num, HE.out⟩
                      case measure => simp [intOf]; omega
                    · have f0 : 48 ≤ PlainAid.bt s k := by omega
                      have f1 : decide (PlainAid.bt s k ≤ 57) = false := by simp; omega
                      have f2 : (PlainAid.bt s k != 47) = true := by simp; omega
                      have f3 : (PlainAid.bt s k != 95) = false := by simp; omega
                      clear q2
                      go_wp2_with (first | (go_at_call 59; (with_reducible refine (L1.out _).mono ?_); rintro e w1 ⟨rfl, rfl⟩))
                      go_round
                      case rel => exact ⟨k + 1, by omega, by go_num, HE.out⟩
                      case measure => simp [intOf]; omega
                    · have f0 : ¬ 48 ≤ PlainAid.bt s k := by omega
                      have f2 : (PlainAid.bt s k != 47) = true := by simp; omega
                      have f3 : (PlainAid.bt s k != 95) = true := by simp; omega
                      have f4 : (PlainAid.bt s k != 43) = false := by simp; omega
                      clear q2
                      go_wp2_with (first | (go_at_call 59; (with_reducible refine (L1.out _).mono ?_); rintro e w1 ⟨rfl, rfl⟩))
                      go_round
                      case rel => exact ⟨k + 1, by omega, by go_num, HE.out⟩
                      case measure => simp [intOf]; omega
                    · have f0 : ¬ 48 ≤ PlainAid.bt s k := by omega
                      have f2 : (PlainAid.bt s k != 47) = true := by simp; omega
                      have f3 : (PlainAid.bt s k != 95) = true := by simp; omega
                      have f4 : (PlainAid.bt s k != 43) = true := by simp; omega
                      have f5 : (PlainAid.bt s k != 45) = false := by simp; omega
                      clear q2
                      go_wp2_with (first | (go_at_call 59; (with_reducible refine (L1.out _).mono ?_); rintro e w1 ⟨rfl, rfl⟩))
                      go_round
                      case rel => exact ⟨k + 1, by omega, by go_num, HE.out⟩
                      case measure => simp [intOf]; omega
                · rw [hl] at L1
                  clear hn hl
                  go_wp2_with (first | (go_at_call 59; (with_reducible refine (L1.out _).mono ?_); rintro e w1 ⟨rfl, rfl⟩))
                  go_round
                  case rel => exact ⟨k + 1, by omega, by go_num, HE.out⟩
                  case measure => simp [intOf]; omega
            · have HE := Lib.hid (HY.out.trans (nmTo_end s k hlt H0.out))
              go_wp2
              go_ret
              exact ⟨ret_bool HE.out.symm, rfl⟩
    · have hw : withinB (s.size : Int) 1 12 = false := (withinB_no _ _ _).2 (by omega)
      rw [hw] at W
      have HX := Lib.hid (SZ.out (by omega))
      clear SZ OK hw
      go_enter Tryz.func23, Tryz.ntmps23
      go_wp2_with (go_at_call 43; (with_reducible refine (W.out _).mono ?_); rintro e w1 ⟨rfl, rfl⟩)
      go_ret
      exact ⟨ret_bool HX.out.symm, rfl⟩
  · have hw : withinB (s.size : Int) 1 12 = false := (withinB_no _ _ _).2 (by omega)
    rw [hw] at W
    have HX := Lib.hid (SZ.out (by omega))
    clear SZ OK hw
    go_enter Tryz.func23, Tryz.ntmps23
    go_wp2_with (go_at_call 43; (with_reducible refine (W.out _).mono ?_); rintro e w1 ⟨rfl, rfl⟩)
    go_ret
    exact ⟨ret_bool HX.out.symm, rfl⟩
end Go.Proofs.YtbbbeldbhlehnaaGreat
end
/-! Plain: the first one of which p holds; texts that are one; what is asked of all of a list; the order of texts. -/
section
set_option linter.unusedVariables false
set_option linter.unusedSimpArgs false
namespace Gno
open Go
/-- the number of the first one from which p holds; -1: none. -/
def fst {α : Type} (p : α → Bool) : List α → Int → Int
  | [], _ => -1
  | b :: t, k => if p b = true then k else fst p t (k + 1)
theorem fst_drop {α : Type} {p : α → Bool} {l : List α} {i : Nat} {b : α} (h : l[i]? = some b) : (p b = true → fst p (l.drop i) i = i) ∧ (p b = false → fst p (l.drop i) i = fst p (l.drop (i + 1)) ((i + 1 : Nat) : Int)) := by
  have hi : i < l.length := (List.getElem?_eq_some_iff.1 h).1
  have he : l[i] = b := (List.getElem?_eq_some_iff.1 h).2
  rw [List.drop_eq_getElem_cons hi, he]
  exact ⟨fun q => by rw [fst, if_pos q], fun q => by rw [fst, if_neg (by simp [q])]; rfl⟩
theorem fst_end {α : Type} {p : α → Bool} {l : List α} {i : Nat} (h : ¬ i < l.length) : fst p (l.drop i) i = -1 := by
  rw [List.drop_of_length_le (by omega)]; rfl
def hasP {α : Type} (p : α → Bool) (l : List α) : Bool := decide (0 ≤ fst p l 0)
theorem fst_nn {α : Type} (p : α → Bool) : ∀ (l : List α) (k : Int), 0 ≤ k → (0 ≤ fst p l k ↔ ∃ b ∈ l, p b = true)
  | [], k, h => by simp [fst]
  | b :: t, k, h => by
    unfold fst
    by_cases q : p b = true
    · rw [if_pos q]; exact ⟨fun _ => ⟨b, by simp, q⟩, fun _ => h⟩
    · rw [if_neg q, fst_nn p t (k + 1) (by omega)]
      constructor
      · rintro ⟨c, hc, hp⟩; exact ⟨c, by simp [hc], hp⟩
      · rintro ⟨c, hc, hp⟩
        rcases List.mem_cons.1 hc with rfl | hc
        · exact absurd hp q
        · exact ⟨c, hc, hp⟩
theorem hasP_any {α : Type} (p : α → Bool) (l : List α) : hasP p l = l.any p := by
  rw [Bool.eq_iff_iff, List.any_eq_true, hasP, decide_eq_true_iff, fst_nn p l 0 (by omega)]
/-- are the two texts one? -/
def same (a b : ByteArray) : Bool := a.toList == b.toList
theorem same_iff (a b : ByteArray) : same a b = true ↔ a = b := by
  unfold same
  rw [beq_iff_eq, ByteArray.toList_eq, ByteArray.toList_eq]
  constructor
  · intro h; exact ByteArray.ext (Array.toList_inj.1 h)
  · intro h; rw [h]
theorem same_comm (a b : ByteArray) : same a b = same b a := by
  rw [Bool.eq_iff_iff, same_iff, same_iff]; exact eq_comm
theorem fst_range {α : Type} (p : α → Bool) : ∀ (l : List α) (k : Int), 0 ≤ k → fst p l k = -1 ∨ (k ≤ fst p l k ∧ fst p l k < k + l.length)
  | [], k, h => .inl rfl
  | b :: t, k, h => by
    unfold fst
    by_cases q : p b = true
    · rw [if_pos q]; exact .inr ⟨Int.le_refl _, by simp; omega⟩
    · rw [if_neg q]
      rcases fst_range p t (k + 1) (by omega) with e | e
      · exact .inl e
      · exact .inr ⟨by omega, by simp; omega⟩
theorem fst_at {α : Type} {p : α → Bool} : ∀ (l : List α) (k : Int) (i : Nat), (∀ j x, j < i → l[j]? = some x → p x = false) → (∃ x, l[i]? = some x ∧ p x = true) → fst p l k = k + i
  | [], k, i, _, h => by obtain ⟨x, hx, _⟩ := h; simp at hx
  | b :: t, k, 0, _, h => by
    obtain ⟨x, hx, hp⟩ := h
    simp at hx
    subst hx
    unfold fst; rw [if_pos hp]; simp
  | b :: t, k, i + 1, h1, h => by
    have hb : p b = false := h1 0 b (by omega) rfl
    unfold fst
    rw [if_neg (by simp [hb]), fst_at t (k + 1) i (fun j x hj hx => h1 (j + 1) x (by omega) (by simpa using hx)) (by simpa using h)]
    simp; omega
/-- is one of the first n asked so? -/
def anyTo (q : Nat → Bool) : Nat → Bool
  | 0 => false
  | i + 1 => anyTo q i || q i
theorem anyTo_mono {q : Nat → Bool} {i : Nat} (h : anyTo q i = true) : ∀ d, anyTo q (i + d) = true
  | 0 => h
  | d + 1 => by
    show anyTo q (i + d + 1) = true
    rw [anyTo, anyTo_mono h d]; rfl
theorem anyTo_yes {q : Nat → Bool} {i n : Nat} (h : i < n) (hq : q i = true) : anyTo q n = true := by
  have h1 : anyTo q (i + 1) = true := by rw [anyTo, hq]; simp
  have := anyTo_mono h1 (n - (i + 1))
  rw [show i + 1 + (n - (i + 1)) = n by omega] at this
  exact this
theorem anyTo_no {q : Nat → Bool} {i : Nat} (h : anyTo q i = false) (hq : q i = false) : anyTo q (i + 1) = false := by
  rw [anyTo, h, hq]; rfl
theorem anyTo_all {q : Nat → Bool} {n : Nat} : anyTo q n = false ↔ ∀ i, i < n → q i = false := by
  induction n with
  | zero => exact ⟨fun _ i h => by omega, fun _ => rfl⟩
  | succ n ih =>
    rw [anyTo, Bool.or_eq_false_iff, ih]
    constructor
    · rintro ⟨a, b⟩ i h
      by_cases e : i = n
      · rw [e]; exact b
      · exact a i (by omega)
    · intro h
      exact ⟨fun i hi => h i (by omega), h n (by omega)⟩
theorem anyTo_iff {q : Nat → Bool} {n : Nat} : anyTo q n = true ↔ ∃ i, i < n ∧ q i = true := by
  constructor
  · intro h
    have h1 : ¬ (∀ i, i < n → q i = false) := fun k => by rw [anyTo_all.2 k] at h; cases h
    false_or_by_contra
    rename_i hn
    exact h1 fun i hi => by
      cases e : q i
      · rfl
      · exact absurd ⟨i, hi, e⟩ hn
  · rintro ⟨i, h, hq⟩; exact anyTo_yes h hq
/-- p of the i-th one. -/
def atI {α : Type} (p : Nat → α → Bool) (l : List α) (i : Nat) : Bool := match l[i]? with | some x => p i x | none => false
def anyI {α : Type} (p : Nat → α → Bool) (l : List α) : Bool := anyTo (atI p l) l.length
theorem atI_eq {α : Type} {p : Nat → α → Bool} {l : List α} {i : Nat} {x : α} (h : l[i]? = some x) : atI p l i = p i x := by unfold atI; rw [h]
theorem anyI_iff {α : Type} {p : Nat → α → Bool} {l : List α} : anyI p l = true ↔ ∃ i x, l[i]? = some x ∧ p i x = true := by
  unfold anyI
  rw [anyTo_iff]
  constructor
  · rintro ⟨i, h, hq⟩
    rw [atI_eq (List.getElem?_eq_getElem h)] at hq
    exact ⟨i, l[i], List.getElem?_eq_getElem h, hq⟩
  · rintro ⟨i, x, h, hq⟩
    exact ⟨i, (List.getElem?_eq_some_iff.1 h).1, by rw [atI_eq h]; exact hq⟩
theorem anyI_yes {α : Type} {p : Nat → α → Bool} {l : List α} {i : Nat} {x : α} (h : l[i]? = some x) (hp : p i x = true) : anyI p l = true := anyI_iff.2 ⟨i, x, h, hp⟩
theorem anyI_no {α : Type} {p : Nat → α → Bool} {l : List α} {i : Nat} {x : α} (h : l[i]? = some x) (h0 : anyTo (atI p l) i = false) (hp : p i x = false) : anyTo (atI p l) (i + 1) = false :=
  anyTo_no h0 (by rw [atI_eq h]; exact hp)
theorem anyI_end {α : Type} {p : Nat → α → Bool} {l : List α} {i : Nat} (h : ¬ i < l.length) (hi : i ≤ l.length) (h0 : anyTo (atI p l) i = false) : anyI p l = false := by
  have : i = l.length := by omega
  unfold anyI; rw [← this]; exact h0
theorem anyI_any {α : Type} (p : α → Bool) (l : List α) : anyI (fun _ => p) l = l.any p := by
  rw [Bool.eq_iff_iff, anyI_iff, List.any_eq_true]
  constructor
  · rintro ⟨i, x, h, hp⟩; exact ⟨x, List.mem_of_getElem? h, hp⟩
  · rintro ⟨x, h, hp⟩
    obtain ⟨i, hi⟩ := List.getElem?_of_mem h
    exact ⟨i, x, hi, hp⟩

/-- the order of texts. -/
def lessB (a b : ByteArray) : Bool := Op.bytesLess a.toList b.toList
theorem bl_asymm : ∀ x y : List UInt8, Op.bytesLess x y = true → Op.bytesLess y x = false
  | [], [], h => by simp [Op.bytesLess] at h
  | [], _ :: _, _ => by simp [Op.bytesLess]
  | _ :: _, [], h => by simp [Op.bytesLess] at h
  | a :: x, b :: y, h => by
    simp only [Op.bytesLess, Bool.or_eq_true, Bool.and_eq_true, decide_eq_true_eq, beq_iff_eq] at h
    rw [Op.bytesLess, Bool.or_eq_false_iff, Bool.and_eq_false_iff]
    rcases h with h | ⟨rfl, h⟩
    · have h1 : ¬ b < a := by rw [UInt8.lt_iff_toNat_lt] at h ⊢; omega
      refine ⟨by simpa using h1, .inl ?_⟩
      have : b ≠ a := by intro e; rw [e, UInt8.lt_iff_toNat_lt] at h; omega
      simpa using this
    · exact ⟨by simp, .inr (bl_asymm x y h)⟩
theorem bl_total : ∀ x y : List UInt8, (Op.bytesLess x y || x == y) = !Op.bytesLess y x
  | [], [] => by simp [Op.bytesLess]
  | [], _ :: _ => by simp [Op.bytesLess]
  | _ :: _, [] => by simp [Op.bytesLess]
  | a :: x, b :: y => by
    have ih := bl_total x y
    simp only [Op.bytesLess]
    by_cases e : a = b
    · subst e
      have h1 : decide (a < a) = false := by simp
      simp [ih]
    · have e1 : (a == b) = false := by simpa using e
      have e2 : (b == a) = false := by simpa using fun h => e h.symm
      have e3 : (a :: x == b :: y) = false := by simp [e]
      rw [e1, e2, e3]
      simp only [Bool.false_and, Bool.or_false]
      rw [← decide_not]
      congr 1
      rw [UInt8.lt_iff_toNat_lt, UInt8.lt_iff_toNat_lt]
      have : a.toNat ≠ b.toNat := fun h => e (UInt8.toNat_inj.1 h)
      simp; omega
theorem less_or (a b : ByteArray) : (Op.bytesLess a.toList b.toList || a.toList == b.toList) = !lessB b a := bl_total _ _
theorem less_empty (a : ByteArray) : lessB a ⟨#[]⟩ = false := by
  unfold lessB
  rw [ByteArray.toList_eq ⟨#[]⟩]
  show Op.bytesLess a.toList [] = false
  cases a.toList <;> rfl

theorem take_snoc' {α : Type} {l : List α} {i : Nat} {x : α} (h : l[i]? = some x) : l.take (i + 1) = l.take i ++ [x] := by
  have hi : i < l.length := (List.getElem?_eq_some_iff.1 h).1
  rw [List.take_succ_eq_append_getElem hi, (List.getElem?_eq_some_iff.1 h).2]
theorem hasP_yes {α : Type} {p : α → Bool} {ps : List α} {i : Nat} {x : α} (h : ps[i]? = some x) (hp : p x = true) : hasP p ps = true := by
  rw [hasP_any, List.any_eq_true]; exact ⟨x, List.mem_of_getElem? h, hp⟩
theorem hasP_no {α : Type} {p : α → Bool} {ps : List α} {i : Nat} (h : ¬ i < ps.length) (hi : i ≤ ps.length) (h0 : anyTo (atI (fun _ => p) ps) i = false) : hasP p ps = false := by
  rw [hasP_any, ← anyI_any]; exact anyI_end h hi h0
end Gno
end
/-! The walk of the reference's twice. -/
section
set_option linter.unusedVariables false
set_option linter.unusedSimpArgs false
namespace Gno
/-- is the i-th one among the first m? -/
def amongTo (l : List ByteArray) (v : ByteArray) (m : Nat) : Bool := (l.take m).any fun x => same v x
/-- is one of the first i told twice? -/
def dupTo (l : List ByteArray) : Nat → Bool
  | 0 => false
  | i + 1 => dupTo l i || (match l[i]? with | some v => amongTo l v i | none => false)
def dup (l : List ByteArray) : Bool := dupTo l l.length
theorem amongTo_step {l : List ByteArray} {v x : ByteArray} {m : Nat} (h : l[m]? = some x) : amongTo l v (m + 1) = (amongTo l v m || same v x) := by
  have hm : m < l.length := (List.getElem?_eq_some_iff.1 h).1
  have he : l[m] = x := (List.getElem?_eq_some_iff.1 h).2
  unfold amongTo
  rw [List.take_succ_eq_append_getElem hm, List.any_append, he]
  simp
theorem amongTo_mono {l : List ByteArray} {v : ByteArray} {m m' : Nat} (h : amongTo l v m = true) (hm : m ≤ m') : amongTo l v m' = true := by
  unfold amongTo at h ⊢
  rw [List.any_eq_true] at h ⊢
  obtain ⟨x, hx, hp⟩ := h
  exact ⟨x, (List.take_subset_take_left l hm) hx, hp⟩
theorem dupTo_mono {l : List ByteArray} {i : Nat} (h : dupTo l i = true) : ∀ d, dupTo l (i + d) = true
  | 0 => h
  | d + 1 => by
    show dupTo l (i + d + 1) = true
    rw [dupTo, dupTo_mono h d]; rfl
theorem dup_yes {l : List ByteArray} {i m : Nat} {v : ByteArray} (hi : l[i]? = some v) (hm : m ≤ i) (h : amongTo l v m = true) : dup l = true := by
  have hl : i < l.length := (List.getElem?_eq_some_iff.1 hi).1
  have h1 : dupTo l (i + 1) = true := by rw [dupTo, hi]; simp [amongTo_mono h hm]
  have := dupTo_mono h1 (l.length - (i + 1))
  rw [show i + 1 + (l.length - (i + 1)) = l.length by omega] at this
  exact this
theorem dupTo_no {l : List ByteArray} {i : Nat} {v : ByteArray} (hi : l[i]? = some v) (h0 : dupTo l i = false) (h : amongTo l v i = false) : dupTo l (i + 1) = false := by
  rw [dupTo, hi, h0]; simp [h]
end Gno
namespace Go.Proofs.YtbbbeldbhlehnaaGreat
open Go.RowKit Gno
/-- the texts lie in memory, a cell each. -/
def StrsAt (w : World) (B : Nat) (A : Option Addr) (n : Nat) (l : List ByteArray) : Prop :=
  l.length = n ∧ n ≤ maxLen ∧ (0 < n → ∃ b o, A = some ⟨b, o, none⟩ ∧ b < B ∧ ∀ (i : Nat) s, l[i]? = some s → w.cell? ⟨b, o + i, none⟩ = some (.string s))
theorem StrsAt.below {B B' : Nat} {w w' : World} {A : Option Addr} {n : Nat} {l : List ByteArray} (h : StrsAt w B A n l) (hb : Below B' w w') (hB : B ≤ B') : StrsAt w' B A n l :=
  ⟨h.1, h.2.1, fun hn => by
    obtain ⟨b, o, e, hbB, hc⟩ := h.2.2 hn
    have hl : b < B' := by omega
    exact ⟨b, o, e, hbB, fun i p hi => (hb.cell hl).trans (hc i p hi)⟩⟩
theorem StrsAt.more {B B' : Nat} {w : World} {A : Option Addr} {n : Nat} {l : List ByteArray} (h : StrsAt w B A n l) (hB : B ≤ B') : StrsAt w B' A n l :=
  ⟨h.1, h.2.1, fun hn => by
    obtain ⟨b, o, e, hbB, hc⟩ := h.2.2 hn
    exact ⟨b, o, e, by omega, hc⟩⟩
set_option maxRecDepth 100000 in
set_option maxHeartbeats 4000000 in
theorem twice_any (A : Option Addr) (n cap : Nat) (l : List ByteArray) (w : World) (hR : StrsAt w w.heap.size A n l) :
    Calls Tryz.prog 80 #[.slice A n cap] w fun e w' => e = .returned (.bool (dup l)) ∧ Below w.heap.size w w' := by
  have hn : n ≤ 9223372036854775807 := hR.2.1
  have HR := Lib.hid hR
  clear hR
  go_enter Tryz.func80, Tryz.ntmps80
  go_wp2
  go_loopw [3, 4] (fun b0 _ wr => ∃ i : Nat, i ≤ n ∧ b0 = .int .i64 i ∧ Hid (dupTo l i = false) ∧ Below w.heap.size w wr) (fun b0 _ _ => n - (intOf b0).toNat)
  case atStart => exact ⟨0, Nat.zero_le _, rfl, Lib.hid rfl, Below.refl _ _⟩
  case round =>
    obtain ⟨i, hi, rfl, hfd, hb⟩ := hrel
    obtain ⟨wo, hwo⟩ : ∃ wo : World, wo = wr := ⟨_, rfl⟩
    rw [← hwo]
    rw [← hwo] at hb
    clear hwo
    by_cases hlt : i < n
    · obtain ⟨b, o, hA, hbB, hc⟩ := HR.out.2.2 (by omega)
      subst hA
      have hl : i < l.length := by rw [HR.out.1]; exact hlt
      have HC := Lib.hid hc
      obtain ⟨v, hv⟩ : ∃ v, l[i]? = some v := ⟨_, List.getElem?_eq_getElem hl⟩
      have e0 := hc i v hv
      have HVI := Lib.hid hv
      clear hc hl hv
      go_wp2
      go_loopw [4] (fun b1 wr2 => ∃ m : Nat, m ≤ i ∧ b1 = .int .i64 m ∧ Hid (amongTo l v m = false) ∧ Below w.heap.size w wr2) (fun b1 _ => i - (intOf b1).toNat)
      case atStart => exact ⟨0, Nat.zero_le _, rfl, Lib.hid (by simp [amongTo]), hb⟩
      case round =>
        obtain ⟨m, hm, rfl, hfm, hb2⟩ := hrel
        by_cases hmi : m < i
        · have hl : m < l.length := by rw [HR.out.1]; omega
          obtain ⟨x, hx⟩ : ∃ x, l[m]? = some x := ⟨_, List.getElem?_eq_getElem hl⟩
          have g0 := (hb2.cell hbB).trans e0
          have g1 := (hb2.cell hbB).trans (HC.out m x hx)
          have ST := Lib.hid (amongTo_step (v := v) hx)
          clear hl hx e0
          cases hs : same v x
          · have HX : Hid (amongTo l v (m + 1) = false) := Lib.hid (by rw [ST.out, hfm.out, hs]; rfl)
            have hq : (v.toList == x.toList) = false := hs
            clear hs hfm ST
            go_wp2
            go_region
            go_wp2
            go_roundw
            case rel => exact ⟨m + 1, by omega, by go_num, HX, hb2.drew⟩
            case measure => simp [intOf]; omega
          · have HX : Hid (dup l = true) := Lib.hid (dup_yes (m := m + 1) HVI.out (by omega) (by rw [ST.out, hs]; simp))
            have hq : (v.toList == x.toList) = true := hs
            clear hs hfm ST
            go_wp2
            go_region
            go_wp2
            go_ret
            exact ⟨ret_bool HX.out.symm, hb2.drew⟩
        · have HX := Lib.hid (dupTo_no HVI.out hfd.out (by have : m = i := by omega
                                                           rw [← this]; exact hfm.out))
          go_wp2
          go_roundw
          case rel => exact ⟨i + 1, by omega, by go_num, HX, hb2⟩
          case measure => simp [intOf]; omega
    · have HX : Hid (dup l = false) := Lib.hid (by
        have : i = l.length := by have := HR.out.1; omega
        unfold dup
        rw [← this]; exact hfd.out)
      go_wp2
      go_ret
      exact ⟨ret_bool HX.out.symm, hb⟩
end Go.Proofs.YtbbbeldbhlehnaaGreat
end
