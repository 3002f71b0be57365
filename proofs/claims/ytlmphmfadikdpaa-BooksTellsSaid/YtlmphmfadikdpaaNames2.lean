/- The walks of data.Name and of the reference's IsName. -/
import Derived.Test.YtlmphmfadikdpaaNames
import Derived.Lib.Strings
set_option linter.unusedVariables false
namespace Gno
open Go
/-- does it end in this byte? -/
def ends (s : ByteArray) (b : Int) : Bool := decide (1 ≤ s.size) && decide (PlainAid.bt s (s.size - 1) = b)
theorem extract_one (s : ByteArray) (k : Nat) (h : k < s.size) : (s.extract k (k + 1)).data.toList = [s[k]] := by
  rw [← Lib.toList_data, Lib.extract_toList, List.drop_eq_getElem_cons (by simpa using h), show k + 1 - k = 1 by omega]
  rfl
theorem allLet_one (s : ByteArray) (k : Nat) (h : k < s.size) : allLet (s.extract k (k + 1)) = isLet (PlainAid.bt s k).toNat := by
  unfold allLet
  rw [extract_one s k h]
  have := PlainAid.get_bt s k h
  rw [show (PlainAid.bt s k).toNat = (s[k]).toNat by omega]
  simp
theorem ends_yes (s : ByteArray) (h : 1 ≤ s.size) : ((s.extract (s.size - 1) s.size).toList == [47]) = ends s 47 := by
  have e := extract_one s (s.size - 1) (by omega)
  rw [show s.size - 1 + 1 = s.size by omega] at e
  rw [Lib.toList_data, e]
  have b := PlainAid.get_bt s (s.size - 1) (by omega)
  obtain ⟨v, hv⟩ : ∃ v, v = s[s.size - 1] := ⟨_, rfl⟩
  rw [← hv] at b ⊢
  rw [Bool.eq_iff_iff]
  simp only [ends, h, ← b, decide_true, Bool.true_and, decide_eq_true_iff, beq_iff_eq, List.cons.injEq, and_true]
  constructor
  · intro q; rw [q]; rfl
  · intro q; exact UInt8.toNat_inj.1 (by show v.toNat = 47; omega)
theorem ends_no (s : ByteArray) (b : Int) (h : ¬ 1 ≤ s.size) : ends s b = false := by simp [ends, h]
def allNm (s : ByteArray) : Bool := s.data.toList.all fun b => isNm b.toNat
theorem hasRune_notNm (s : ByteArray) : hasRune notNm s = !allNm s := by
  rw [hasRune_any _ notNm_high, allNm, List.not_all_eq_any_not]
  rfl
/-- is it a name? -/
def nameOk (s : ByteArray) : Bool := decide (1 ≤ s.size ∧ s.size ≤ 12) && (allLet (s.extract 0 1) && (!ends s 47 && allNm s))
theorem allNm_no (s : ByteArray) (k : Nat) (h : k < s.size) (hl : isNm (PlainAid.bt s k).toNat = false) : allNm s = false := by
  have := PlainAid.get_bt s k h
  rw [show (PlainAid.bt s k).toNat = (s[k]).toNat by omega] at hl
  unfold allNm
  rw [List.all_eq_false]
  exact ⟨s.data.toList[k]'(by simpa using h), List.getElem_mem _, by rw [show (s.data.toList[k]'(by simpa using h)) = s[k] from rfl, hl]; simp⟩
def nmTo (s : ByteArray) (k : Nat) : Prop := ((s.data.toList.take k).all fun b => isNm b.toNat) = true
theorem nmTo_snoc (s : ByteArray) (k : Nat) (h : k < s.size) (h0 : nmTo s k) (hl : isNm (PlainAid.bt s k).toNat = true) : nmTo s (k + 1) := by
  have := PlainAid.get_bt s k h
  rw [show (PlainAid.bt s k).toNat = (s[k]).toNat by omega] at hl
  unfold nmTo at h0 ⊢
  rw [take_snoc s k h, List.all_append, h0]
  simp [hl]
theorem nmTo_end (s : ByteArray) (k : Nat) (h : ¬ k < s.size) (h0 : nmTo s k) : allNm s = true := by
  unfold nmTo at h0
  rw [List.take_of_length_le (by simp; omega)] at h0
  exact h0
theorem nameOk_size (s : ByteArray) (h : ¬ (1 ≤ s.size ∧ s.size ≤ 12)) : nameOk s = false := by simp [nameOk, h]
theorem nameOk_is (s : ByteArray) (h1 : 1 ≤ s.size) (h2 : s.size ≤ 12) {a b c : Bool} (ha : allLet (s.extract 0 1) = a) (hb : ends s 47 = b) (hc : allNm s = c) : nameOk s = (a && (!b && c)) := by simp [nameOk, h1, h2, ha, hb, hc]
end Gno
namespace Go.Proofs.Ytlmphmfadikdpaa
open Go.RowKit Gno
set_option maxHeartbeats 2000000 in
theorem suffix0_any (s : ByteArray) (w : World) (hs : s.size ≤ maxLen) :
    Calls Try.prog 81 #[.string s, .string ⟨#[47]⟩] w fun e w' => e = .returned (.bool (ends s 47)) ∧ w = w' := by
  unfold maxLen at hs
  by_cases h : 1 ≤ s.size
  · have HE := Lib.hid (ends_yes s h)
    have ht : ((s.size : Int) - 1).toNat = s.size - 1 := by omega
    go_enter Try.func81, Try.ntmps81
    go_wp2
    go_ret
    exact ⟨ret_bool (by rw [← HE.out]), rfl⟩
  · have HE := Lib.hid (ends_no s 47 h)
    go_enter Try.func81, Try.ntmps81
    go_wp2
    go_ret
    exact ⟨ret_bool HE.out.symm, rfl⟩
theorem suffix_any (s : ByteArray) (w : World) (hs : s.size ≤ maxLen) :
    Calls Try.prog 76 #[.string s, .string ⟨#[47]⟩] w fun e w' => e = .returned (.bool (ends s 47)) ∧ w = w' := by
  have C := Lib.hid (fun w => suffix0_any s w hs)
  clear hs
  go_enter Try.func76, Try.ntmps76
  go_wp2_with (go_at_call 81; (with_reducible refine (C.out _).mono ?_); rintro e w1 ⟨rfl, rfl⟩)
  go_ret
  exact ⟨rfl, rfl⟩
set_option maxRecDepth 100000 in
set_option maxHeartbeats 2000000 in
theorem name_any (s : ByteArray) (w : World) (hs : s.size ≤ maxLen) :
    Calls Try.prog 58 #[.string s] w fun e w' => e = .returned (.bool (nameOk s)) ∧ Below w.heap.size w w' := by
  have C2 := Lib.hid (fun w => suffix_any s w hs)
  have C1 := Lib.hid (fun w => letters_any (s.extract 0 1) w)
  have c3 := fun lb w => containsFunc_any 78 lb (enters_of Try.func78 (by kernel_rfl) rfl) notNm s w
  simp only [hasRune_notNm] at c3
  have C3 := Lib.hid c3
  clear c3
  have SZ := Lib.hid (nameOk_size s)
  have hsf := fun (a : Addr) (c : Array Value) (w : World) => run_store Try.prog w a (.func (.func 75) #[] c) .plain rfl
  have hmf : ∀ (fn : Fn) (first cap : Array Value) (w : World), (Instr.makeFunc fn first cap).run Try.prog w = .ok (.func fn first cap) w := fun _ _ _ _ => rfl
  have hba : Hid (∀ w1, Below (w.alloc (.cells #[.func (.func 75) #[] #[]] 85)).heap.size (w.alloc (.cells #[.func (.func 75) #[] #[]] 85)) w1 → Below w.heap.size w w1) :=
    Lib.hid (fun w1 hb1 => ((Below.refl _ _).alloc (Nat.le_refl _) _).trans (hb1.mono (by simp)))
  have HP : Hid (∀ w1, Below (w.alloc (.cells #[.func (.func 75) #[] #[]] 85)).heap.size (w.alloc (.cells #[.func (.func 75) #[] #[]] 85)) w1 →
      PredG Try.prog 78 #[.pointer (some ⟨w.heap.size, 0, none⟩)] notNm w1) := Lib.hid (fun w1 hb1 W x hx hbW => by
    have c1 : w1.cell? ⟨w.heap.size, 0, none⟩ = some (.func (.func 75) #[] #[]) := (hb1.cell (by simp)).trans (by first | (simp [go_sem]; done) | go_simp)
    have hl : w.heap.size < w1.heap.size := by have := hb1.size; simp at this; omega
    exact name2_any w.heap.size x W hx ((hbW.cell hl).trans c1))
  have OK := Lib.hid (fun h1 h2 (a b c : Bool) ha hb hc => nameOk_is s h1 h2 (a := a) (b := b) (c := c) ha hb hc)
  unfold maxLen at hs
  by_cases h1 : 1 ≤ s.size
  · by_cases h2 : s.size ≤ 12
    · have HX := Lib.hid (OK.out h1 h2 _ _ _ rfl rfl rfl)
      clear OK SZ
      obtain ⟨a, ha⟩ : ∃ a, a = allLet (s.extract 0 1) := ⟨_, rfl⟩
      obtain ⟨b, hb⟩ : ∃ b, b = ends s 47 := ⟨_, rfl⟩
      obtain ⟨c, hc⟩ : ∃ c, c = allNm s := ⟨_, rfl⟩
      rw [← ha] at C1 HX
      rw [← hb] at C2 HX
      rw [← hc] at C3 HX
      clear ha hb hc
      obtain ⟨x, hx⟩ : ∃ x, x = nameOk s := ⟨_, rfl⟩
      rw [← hx] at HX ⊢
      clear hx
      cases a <;> cases b
      all_goals
        go_enter Try.func58, Try.ntmps58
        go_wp2_with (first
          | (go_at_call 68; (with_reducible refine (C1.out _).mono ?_); rintro e w1 ⟨rfl, hb1⟩)
          | (go_at_call 76; (with_reducible refine (C2.out _).mono ?_); rintro e w2 ⟨rfl, rfl⟩)
          | (go_at_call 77; (with_reducible refine (C3.out _ _ (HP.out _ hb1)).mono ?_); rintro e w3 ⟨rfl, hb3⟩))
        go_ret
        exact ⟨ret_bool (by rw [HX.out] <;> simp), by first | exact (hba.out _ hb1).trans (hb3.mono (hba.out _ hb1).size) | exact hba.out _ hb1⟩
    · have HX := Lib.hid (SZ.out (by omega))
      clear OK SZ C1 C2 C3 hba HP
      go_enter Try.func58, Try.ntmps58
      go_wp2
      go_ret
      exact ⟨ret_bool HX.out.symm, (Below.refl _ _).alloc (Nat.le_refl _) _⟩
  · have HX := Lib.hid (SZ.out (by omega))
    have h0 : s.size = 0 := by omega
    clear OK SZ C1 C2 C3 hba HP
    go_enter Try.func58, Try.ntmps58
    go_wp2
    go_ret
    exact ⟨ret_bool HX.out.symm, (Below.refl _ _).alloc (Nat.le_refl _) _⟩
end Go.Proofs.Ytlmphmfadikdpaa
