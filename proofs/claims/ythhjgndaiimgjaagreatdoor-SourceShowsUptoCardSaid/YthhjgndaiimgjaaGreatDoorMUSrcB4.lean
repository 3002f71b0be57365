/- Parts of a proof, laid together. -/
import Derived.Lib.OthersKept
import Derived.Deep.LoopGhost
import Derived.Shelf.Abstract
import Derived.PlainAid
import Derived.Lib.Strings
import Derived.Test.YthhjgndaiimgjaaGreatDoorMUSrcB2
import Derived.Test.YthhjgndaiimgjaaGreatDoorMUSrcB0
set_option linter.unusedSimpArgs false
set_option linter.unusedVariables false
/-! The walks of the library's ContainsFunc, of Letters and of the reference's letters. -/
section
set_option linter.unusedVariables false
set_option linter.unusedSimpArgs false
namespace Go.Proofs.YthhjgndaiimgjaaGreatDoor
open Go.RowKit Go.Shelf Gno

/-- what is asked of the function that is handed in: at every later world and every rune it returns 'p x', and whatever lay, lies. -/
def PredG (P : Program) (g : Nat) (lb : Array Value) (p : Nat → Bool) (w : World) : Prop :=
  ∀ (W : World) (x : Nat), x ≤ 1114111 → Below w.heap.size w W → Calls P g (#[.int .i32 (x : Int)] ++ lb) W fun e w' => e = .returned (.bool (p x)) ∧ Below W.heap.size W w'
theorem PredG.later {P : Program} {g : Nat} {lb : Array Value} {p : Nat → Bool} {w W : World} (h : PredG P g lb p w) (hb : Below w.heap.size w W) : PredG P g lb p W :=
  fun W' x hx hb' => h W' x hx (hb.trans (hb'.mono hb.size))

set_option maxHeartbeats 2000000 in
set_option maxRecDepth 1000000 in
theorem indexFunc_any (g : Nat) (lb : Array Value) (eg : ∀ args w, (callFunc g args).run Tryz.prog w = .ok (.enter g args) w) (p : Nat → Bool) (s : ByteArray) (w : World) (hp : PredG Tryz.prog g lb p w) :
    Calls Tryz.prog 113 #[.string s, .func (.func g) #[] lb, .bool true] w fun e w' => e = .returned (.int .i64 (idxR p s s.size 0)) ∧ Below w.heap.size w w' := by
  go_enter Tryz.func113, Tryz.ntmps113
  go_wp2
  go_loopg [] s.size (fun gf wx => ∃ pos : Nat, wx.heap[w.heap.size]? = some (.stringIter s pos) ∧ Below w.heap.size w wx ∧ idxR p s gf pos = idxR p s s.size 0 ∧ s.size ≤ pos + gf)
  case atStart => exact ⟨0, World.iter_heap w s 0, (Below.refl _ w).alloc (Nat.le_refl _) _, rfl, by omega⟩
  case round =>
    obtain ⟨pos, hit, hbw, hleft, hfu⟩ := hrel
    by_cases hps : pos < s.size
    · obtain ⟨g', rfl⟩ : ∃ g', gk = g' + 1 := ⟨gk - 1, by omega⟩
      have hnx : ∀ ty, (Instr.next (.pointer (some ⟨w.heap.size, 0, none⟩)) true ty).run Tryz.prog wr = _ := fun ty => Lib.run_next_any_at wr w.heap.size s pos ty hit hps
      have hwd := Lib.width_pos s pos
      obtain ⟨R, hR⟩ : ∃ R, (Utf8.decode s pos).1 = R := ⟨_, rfl⟩
      obtain ⟨K, hK⟩ : ∃ K, (Utf8.decode s pos).2 = K := ⟨_, rfl⟩
      simp only [idxR, hps, if_true, hR, hK] at hleft
      rw [hR, hK] at hnx
      rw [hK] at hwd
      have hit2 := Lib.iterAt_heap wr w.heap.size s pos (pos + K) hit
      have hbw2 := Lib.below_iterAt hbw (k := w.heap.size) (Nat.le_refl _) s (pos + K)
      obtain ⟨W, hWd⟩ : ∃ W, wr.iterAt w.heap.size s (pos + K) = W := ⟨_, rfl⟩
      rw [hWd] at hnx hit2 hbw2
      have hltW : w.heap.size < W.heap.size := (Array.getElem?_eq_some_iff.1 hit2).1
      have cS : Calls Tryz.prog g (#[.int .i32 (R : Int)] ++ lb) W _ := hp W R (by rw [← hR]; exact Lib.rune_le s pos) hbw2
      clear hp
      cases hsp : p R <;> rw [hsp] at cS <;> simp only [hsp, if_true, Bool.false_eq_true, if_false] at hleft
      · go_wp2_with (go_at_fn g; refine cS.mono ?_; rintro e W' ⟨rfl, hbc⟩)
        go_roundg g'
        case measure => omega
        case rel => exact ⟨pos + K, (hbc.block _ hltW).trans hit2, (hbw2.trans (hbc.mono hbw2.size)), hleft, by omega⟩
      · go_wp2_with (go_at_fn g; refine cS.mono ?_; rintro e W' ⟨rfl, hbc⟩)
        go_ret
        exact ⟨by rw [← hleft] <;> rfl, (hbw2.trans (hbc.mono hbw2.size))⟩
    · have hnx : ∀ ty, (Instr.next (.pointer (some ⟨w.heap.size, 0, none⟩)) true ty).run Tryz.prog wr = _ := fun ty => Lib.run_next_end_at wr w.heap.size s pos ty hit hps
      rw [idxR_end p s gk pos hps] at hleft
      go_wp2
      go_ret
      exact ⟨by rw [← hleft] <;> rfl, hbw⟩

theorem containsFunc_any (g : Nat) (lb : Array Value) (eg : ∀ args w, (callFunc g args).run Tryz.prog w = .ok (.enter g args) w) (p : Nat → Bool) (s : ByteArray) (w : World) (hp : PredG Tryz.prog g lb p w) :
    Calls Tryz.prog 75 #[.string s, .func (.func g) #[] lb] w fun e w' => e = .returned (.bool (hasRune p s)) ∧ Below w.heap.size w w' := by
  have H := Lib.hid (fun w hp => indexFunc_any g lb eg p s w hp)
  have IF : ∀ w, PredG Tryz.prog g lb p w → Calls Tryz.prog 98 #[.string s, .func (.func g) #[] lb] w fun e w' => e = .returned (.int .i64 (idxR p s s.size 0)) ∧ Below w.heap.size w w' := by
    intro w hp
    have HP := Lib.hid hp
    clear hp eg
    go_enter Tryz.func98, Tryz.ntmps98
    go_wp2_with (go_at_call 113; (with_reducible refine (H.out _ HP.out).mono ?_); rintro e w1 ⟨rfl, hb1⟩)
    go_ret
    exact ⟨rfl, hb1⟩
  have HF := Lib.hid IF
  have HP := Lib.hid hp
  clear IF hp eg H
  go_enter Tryz.func75, Tryz.ntmps75
  go_wp2_with (go_at_call 98; (with_reducible refine (HF.out _ HP.out).mono ?_); rintro e w1 ⟨rfl, hb1⟩)
  go_ret
  exact ⟨ret_bool rfl, hb1⟩

theorem notLet_any (x : Nat) (w : World) (hx : x ≤ 1114111) :
    Calls Tryz.prog 97 #[.int .i32 (x : Int)] w fun e w' => e = .returned (.bool (notLet x)) ∧ w = w' := by
  by_cases h1 : (x : Int) < 97
  · by_cases h3 : (x : Int) < 65
    · go_enter Tryz.func97, Tryz.ntmps97
      go_wp2
      go_ret
      exact ⟨ret_bool (by simp [notLet, isLet]; omega), rfl⟩
    · by_cases h4 : (90 : Int) < x
      all_goals
        go_enter Tryz.func97, Tryz.ntmps97
        go_wp2
        go_ret
        exact ⟨ret_bool (by simp [notLet, isLet]; omega), rfl⟩
  · by_cases h2 : (122 : Int) < x
    · have h3 : ¬ (x : Int) < 65 := by omega
      have h4 : (90 : Int) < x := by omega
      go_enter Tryz.func97, Tryz.ntmps97
      go_wp2
      go_ret
      exact ⟨ret_bool (by simp [notLet, isLet]; omega), rfl⟩
    · go_enter Tryz.func97, Tryz.ntmps97
      go_wp2
      go_ret
      exact ⟨ret_bool (by simp [notLet, isLet]; omega), rfl⟩

theorem letters_any (s : ByteArray) (w : World) :
    Calls Tryz.prog 73 #[.string s] w fun e w' => e = .returned (.bool (allLet s)) ∧ Below w.heap.size w w' := by
  have C := Lib.hid (fun w => containsFunc_any 97 #[] (enters_of Tryz.func97 (by kernel_rfl) rfl) notLet s w
    (fun W x hx _ => (notLet_any x W hx).mono fun _ _ h => ⟨h.1, h.2 ▸ Below.refl _ _⟩))
  simp only [hasRune_notLet] at C
  go_enter Tryz.func73, Tryz.ntmps73
  go_wp2_with (go_at_call 75; (with_reducible refine (C.out _).mono ?_); rintro e w1 ⟨rfl, hb1⟩)
  go_ret
  exact ⟨ret_bool (by simp), hb1⟩
end Go.Proofs.YthhjgndaiimgjaaGreatDoor
end
/-! The walk of the reference's letters. -/
section
set_option linter.unusedVariables false
set_option linter.unusedSimpArgs false
namespace Gno
theorem take_snoc (s : ByteArray) (k : Nat) (h : k < s.size) : s.data.toList.take (k + 1) = s.data.toList.take k ++ [s[k]] := by
  rw [List.take_succ_eq_append_getElem (by simpa using h)]; rfl
theorem allLet_no (s : ByteArray) (k : Nat) (h : k < s.size) (hl : isLet (s[k].toNat) = false) : allLet s = false := by
  unfold allLet
  rw [List.all_eq_false]
  exact ⟨s.data.toList[k]'(by simpa using h), List.getElem_mem _, by rw [show (s.data.toList[k]'(by simpa using h)) = s[k] from rfl, hl]; simp⟩
theorem allLet_snoc (s : ByteArray) (k : Nat) (h : k < s.size) (h0 : ((s.data.toList.take k).all fun b => isLet b.toNat) = true) (hl : isLet (s[k].toNat) = true) : ((s.data.toList.take (k + 1)).all fun b => isLet b.toNat) = true := by
  rw [take_snoc s k h, List.all_append, h0]
  simp [hl]
theorem allLet_end (s : ByteArray) (k : Nat) (h : ¬ k < s.size) (h0 : ((s.data.toList.take k).all fun b => isLet b.toNat) = true) : allLet s = true := by
  rw [List.take_of_length_le (by simp; omega)] at h0
  exact h0
end Gno
namespace Go.Proofs.YthhjgndaiimgjaaGreatDoor
open Go.RowKit Gno

set_option maxHeartbeats 1000000 in
theorem lettersR_any (s : ByteArray) (w : World) (hs : s.size ≤ maxLen) :
    Calls Tryz.prog 55 #[.string s] w fun e w' => e = .returned (.bool (allLet s)) ∧ w = w' := by
  unfold maxLen at hs
  go_enter Tryz.func55, Tryz.ntmps55
  go_wp2
  go_loop [3] (fun i => ∃ k : Nat, k ≤ s.size ∧ i = .int .i64 k ∧ ((s.data.toList.take k).all fun b => isLet b.toNat) = true) (fun i => s.size - (intOf i).toNat)
  case atStart => exact ⟨0, Nat.zero_le _, rfl, by simp⟩
  case round =>
    obtain ⟨k, hk, rfl, h0⟩ := hrel
    have H0 := Lib.hid h0
    clear h0
    have hbt := PlainAid.get_bt s
    have hb0 := PlainAid.bt_nonneg s k
    have hb1 := PlainAid.bt_le s k
    by_cases hlt : k < s.size
    · have hbk := hbt k hlt
      cases hl : isLet (s[k].toNat)
      · have HE := Lib.hid (allLet_no s k hlt hl)
        have hl' : ¬ (65 ≤ s[k].toNat ∧ s[k].toNat ≤ 90) ∧ ¬ (97 ≤ s[k].toNat ∧ s[k].toNat ≤ 122) := by simpa [isLet] using hl
        clear hl
        rw [show (s[k].toNat) = (PlainAid.bt s k).toNat by omega] at hl'
        clear hbk
        by_cases h1 : (65 : Int) ≤ PlainAid.bt s k
        · have h2 : ¬ PlainAid.bt s k ≤ 90 := by omega
          by_cases h3 : (97 : Int) ≤ PlainAid.bt s k
          · have h4 : ¬ PlainAid.bt s k ≤ 122 := by omega
            clear hl'
            go_wp2
            go_ret
            exact ⟨ret_bool HE.out.symm, rfl⟩
          · clear hl'
            go_wp2
            go_ret
            exact ⟨ret_bool HE.out.symm, rfl⟩
        · have h3 : ¬ (97 : Int) ≤ PlainAid.bt s k := by omega
          clear hl'
          go_wp2
          go_ret
          exact ⟨ret_bool HE.out.symm, rfl⟩
      · have HE := Lib.hid (allLet_snoc s k hlt H0.out hl)
        have hl' : (65 ≤ s[k].toNat ∧ s[k].toNat ≤ 90) ∨ (97 ≤ s[k].toNat ∧ s[k].toNat ≤ 122) := by simpa [isLet] using hl
        clear hl
        rw [show (s[k].toNat) = (PlainAid.bt s k).toNat by omega] at hl'
        clear hbk
        have h1 : (65 : Int) ≤ PlainAid.bt s k := by omega
        by_cases h2 : PlainAid.bt s k ≤ 90
        · clear hl'
          go_wp2
          go_round
          case rel => exact ⟨k + 1, by omega, by go_num, HE.out⟩
          case measure => simp [intOf]; omega
        · have h3 : (97 : Int) ≤ PlainAid.bt s k := by omega
          have h4 : PlainAid.bt s k ≤ 122 := by omega
          clear hl'
          go_wp2
          go_round
          case rel => exact ⟨k + 1, by omega, by go_num, HE.out⟩
          case measure => simp [intOf]; omega
    · have HE := Lib.hid (allLet_end s k hlt H0.out)
      go_wp2
      go_ret
      exact ⟨ret_bool HE.out.symm, rfl⟩
end Go.Proofs.YthhjgndaiimgjaaGreatDoor
end
/-! The walks of data.Name's closures, and of HasSuffix at a byte. -/
section
set_option linter.unusedVariables false
set_option linter.unusedSimpArgs false
namespace Gno
open Go
/-- what may stand in a name. -/
def isNm (n : Nat) : Bool := isLet n || decide (48 ≤ n ∧ n ≤ 57) || decide (n = 47) || decide (n = 95) || decide (n = 43) || decide (n = 45)
def notNm (n : Nat) : Bool := !isNm n
theorem isLet_high (n : Nat) (h : 128 ≤ n) : isLet n = false := by simp [isLet]; omega
theorem notNm_high (r : Nat) (h : 128 ≤ r) : notNm r = true := by simp [notNm, isNm, isLet_high r h]; omega
theorem byte_of (n : Nat) (h : n < 256) : (UInt8.ofNat n).toNat = n := by simp; omega
theorem allLet_first (a : UInt8) (l : List UInt8) (h : isLet a.toNat = false) : allLet ⟨(a :: l).toArray⟩ = false := by
  simp [allLet, h]
theorem valid_low (x : Nat) (h : Utf8.valid (x : Int) = false) : 128 ≤ x := by
  unfold Utf8.valid at h
  simp at h
  omega
theorem allLet_rune (x : Nat) (hx : x ≤ 1114111) : allLet (Utf8.encode (x : Int)) = isLet x := by
  obtain ⟨c, hc⟩ : ∃ c, c = (if Utf8.valid (x : Int) then ((x : Int).toNat) else Utf8.runeError) := ⟨_, rfl⟩
  have hcx : (c = x) ∨ (c = 65533 ∧ 128 ≤ x) := by
    cases hv : Utf8.valid (x : Int)
    · rw [hv] at hc; exact .inr ⟨by rw [hc]; rfl, valid_low x hv⟩
    · rw [hv] at hc; exact .inl (by rw [hc]; simp)
  unfold Utf8.encode
  simp only [← hc]
  by_cases h1 : c < 128
  · rw [if_pos h1]
    have : c = x := by omega
    subst this
    simp only [allLet, List.all_cons, List.all_nil, Bool.and_true]
    rw [byte_of c (by omega)]
  · rw [if_neg h1, isLet_high x (by omega)]
    split
    · exact allLet_first _ _ (isLet_high _ (by rw [byte_of _ (by omega)]; omega))
    · split
      · exact allLet_first _ _ (isLet_high _ (by rw [byte_of _ (by omega)]; omega))
      · exact allLet_first _ _ (isLet_high _ (by rw [byte_of _ (by omega)]; omega))
/-- the last byte. -/
def endsIn (s : ByteArray) (b : Nat) : Bool := decide (1 ≤ s.size ∧ (s.get! (s.size - 1)).toNat = b)
end Gno
namespace Go.Proofs.YthhjgndaiimgjaaGreatDoor
open Go.RowKit Gno
set_option maxHeartbeats 2000000 in
theorem name1_any (x : Nat) (w : World) (hx : x ≤ 1114111) :
    Calls Tryz.prog 72 #[.int .i32 (x : Int)] w fun e w' => e = .returned (.bool (isNm x)) ∧ Below w.heap.size w w' := by
  have c := letters_any (Utf8.encode (x : Int))
  rw [allLet_rune x hx] at c
  have C := Lib.hid c
  clear c
  obtain ⟨b, hb⟩ : ∃ b, isLet x = b := ⟨_, rfl⟩
  rw [hb] at C
  cases b
  all_goals
    go_enter Tryz.func72, Tryz.ntmps72
    go_wp2_with (go_at_call 73; (with_reducible refine (C.out _).mono ?_); rintro e w1 ⟨rfl, hb1⟩)
    all_goals
      go_ret
      exact ⟨ret_bool (by rw [Bool.eq_iff_iff]; simp [isNm, hb]; try omega), hb1⟩
theorem name2_any (o : Nat) (x : Nat) (w : World) (hx : x ≤ 1114111) (hc : w.cell? ⟨o, 0, none⟩ = some (.func (.func 72) #[] #[])) :
    Calls Tryz.prog 76 #[.int .i32 (x : Int), .pointer (some ⟨o, 0, none⟩)] w fun e w' => e = .returned (.bool (notNm x)) ∧ Below w.heap.size w w' := by
  have C := Lib.hid (fun w => name1_any x w hx)
  clear hx
  obtain ⟨b, hb⟩ : ∃ b, isNm x = b := ⟨_, rfl⟩
  simp only [hb] at C
  have HN : notNm x = !b := by simp [notNm, hb]
  clear hb
  rw [HN]
  clear HN
  go_enter Tryz.func76, Tryz.ntmps76
  go_wp2_with fail
  refine (C.out _).mono ?_
  rintro e w1 ⟨rfl, hb1⟩
  go_wp2
  go_ret
  exact ⟨rfl, hb1⟩
end Go.Proofs.YthhjgndaiimgjaaGreatDoor
end
/-! The walks of data.Name and of the reference's IsName. -/
section
set_option linter.unusedVariables false
set_option linter.unusedSimpArgs false
namespace Gno
open Go
/-- does it end in this byte? -/
def ends (s : ByteArray) (b : Int) : Bool := decide (1 ≤ s.size) && decide (PlainAid.bt s (s.size - 1) = b)
theorem extract_one (s : ByteArray) (k : Nat) (h : k < s.size) : (s.extract k (k + 1)).data.toList = [s[k]] := by
  rw [← Lib.toList_data, Lib.extract_toList, List.drop_eq_getElem_cons (by simpa using h), show k + 1 - k = 1 by omega]
  rfl
theorem allLet_one (s : ByteArray) (k : Nat) (h : k < s.size) : allLet (s.extract k (k + 1)) = isLet (PlainAid.bt s k).toNat := by
  unfold allLet
  rw [extract_one s k h]
  have := PlainAid.get_bt s k h
  rw [show (PlainAid.bt s k).toNat = (s[k]).toNat by omega]
  simp
theorem ends_yes (s : ByteArray) (h : 1 ≤ s.size) : ((s.extract (s.size - 1) s.size).toList == [47]) = ends s 47 := by
  have e := extract_one s (s.size - 1) (by omega)
  rw [show s.size - 1 + 1 = s.size by omega] at e
  rw [Lib.toList_data, e]
  have b := PlainAid.get_bt s (s.size - 1) (by omega)
  obtain ⟨v, hv⟩ : ∃ v, v = s[s.size - 1] := ⟨_, rfl⟩
  rw [← hv] at b ⊢
  rw [Bool.eq_iff_iff]
  simp only [ends, h, ← b, decide_true, Bool.true_and, decide_eq_true_iff, beq_iff_eq, List.cons.injEq, and_true]
  constructor
  · intro q; rw [q]; rfl
  · intro q; exact UInt8.toNat_inj.1 (by show v.toNat = 47; omega)
theorem ends_no (s : ByteArray) (b : Int) (h : ¬ 1 ≤ s.size) : ends s b = false := by simp [ends, h]
def allNm (s : ByteArray) : Bool := s.data.toList.all fun b => isNm b.toNat
theorem hasRune_notNm (s : ByteArray) : hasRune notNm s = !allNm s := by
  rw [hasRune_any _ notNm_high, allNm, List.not_all_eq_any_not]
  rfl
/-- is it a name? -/
def nameOk (s : ByteArray) : Bool := decide (1 ≤ s.size ∧ s.size ≤ 12) && (allLet (s.extract 0 1) && (!ends s 47 && allNm s))
theorem allNm_no (s : ByteArray) (k : Nat) (h : k < s.size) (hl : isNm (PlainAid.bt s k).toNat = false) : allNm s = false := by
  have := PlainAid.get_bt s k h
  rw [show (PlainAid.bt s k).toNat = (s[k]).toNat by omega] at hl
  unfold allNm
  rw [List.all_eq_false]
  exact ⟨s.data.toList[k]'(by simpa using h), List.getElem_mem _, by rw [show (s.data.toList[k]'(by simpa using h)) = s[k] from rfl, hl]; simp⟩
def nmTo (s : ByteArray) (k : Nat) : Prop := ((s.data.toList.take k).all fun b => isNm b.toNat) = true
theorem nmTo_snoc (s : ByteArray) (k : Nat) (h : k < s.size) (h0 : nmTo s k) (hl : isNm (PlainAid.bt s k).toNat = true) : nmTo s (k + 1) := by
  have := PlainAid.get_bt s k h
  rw [show (PlainAid.bt s k).toNat = (s[k]).toNat by omega] at hl
  unfold nmTo at h0 ⊢
  rw [take_snoc s k h, List.all_append, h0]
  simp [hl]
theorem nmTo_end (s : ByteArray) (k : Nat) (h : ¬ k < s.size) (h0 : nmTo s k) : allNm s = true := by
  unfold nmTo at h0
  rw [List.take_of_length_le (by simp; omega)] at h0
  exact h0
theorem nameOk_size (s : ByteArray) (h : ¬ (1 ≤ s.size ∧ s.size ≤ 12)) : nameOk s = false := by simp [nameOk, h]
theorem nameOk_is (s : ByteArray) (h1 : 1 ≤ s.size) (h2 : s.size ≤ 12) {a b c : Bool} (ha : allLet (s.extract 0 1) = a) (hb : ends s 47 = b) (hc : allNm s = c) : nameOk s = (a && (!b && c)) := by simp [nameOk, h1, h2, ha, hb, hc]
end Gno
namespace Go.Proofs.YthhjgndaiimgjaaGreatDoor
open Go.RowKit Gno
set_option maxHeartbeats 2000000 in
theorem suffix0_any (s : ByteArray) (w : World) (hs : s.size ≤ maxLen) :
    Calls Tryz.prog 96 #[.string s, .string ⟨#[47]⟩] w fun e w' => e = .returned (.bool (ends s 47)) ∧ w = w' := by
  unfold maxLen at hs
  by_cases h : 1 ≤ s.size
  · have HE := Lib.hid (ends_yes s h)
    have ht : ((s.size : Int) - 1).toNat = s.size - 1 := by omega
    go_enter Tryz.func96, Tryz.ntmps96
    go_wp2
    go_ret
    exact ⟨ret_bool (by rw [← HE.out]), rfl⟩
  · have HE := Lib.hid (ends_no s 47 h)
    go_enter Tryz.func96, Tryz.ntmps96
    go_wp2
    go_ret
    exact ⟨ret_bool HE.out.symm, rfl⟩
theorem suffix_any (s : ByteArray) (w : World) (hs : s.size ≤ maxLen) :
    Calls Tryz.prog 74 #[.string s, .string ⟨#[47]⟩] w fun e w' => e = .returned (.bool (ends s 47)) ∧ w = w' := by
  have C := Lib.hid (fun w => suffix0_any s w hs)
  clear hs
  go_enter Tryz.func74, Tryz.ntmps74
  go_wp2_with (go_at_call 96; (with_reducible refine (C.out _).mono ?_); rintro e w1 ⟨rfl, rfl⟩)
  go_ret
  exact ⟨rfl, rfl⟩
set_option maxRecDepth 100000 in
set_option maxHeartbeats 2000000 in
theorem name_any (s : ByteArray) (w : World) (hs : s.size ≤ maxLen) :
    Calls Tryz.prog 44 #[.string s] w fun e w' => e = .returned (.bool (nameOk s)) ∧ Below w.heap.size w w' := by
  have C2 := Lib.hid (fun w => suffix_any s w hs)
  have C1 := Lib.hid (fun w => letters_any (s.extract 0 1) w)
  have c3 := fun lb w => containsFunc_any 76 lb (enters_of Tryz.func76 (by kernel_rfl) rfl) notNm s w
  simp only [hasRune_notNm] at c3
  have C3 := Lib.hid c3
  clear c3
  have SZ := Lib.hid (nameOk_size s)
  have hsf := fun (a : Addr) (c : Array Value) (w : World) => run_store Tryz.prog w a (.func (.func 72) #[] c) .plain rfl
  have hmf : ∀ (fn : Fn) (first cap : Array Value) (w : World), (Instr.makeFunc fn first cap).run Tryz.prog w = .ok (.func fn first cap) w := fun _ _ _ _ => rfl
  have hba : Hid (∀ w1, Below (w.alloc (.cells #[.func (.func 72) #[] #[]] 122)).heap.size (w.alloc (.cells #[.func (.func 72) #[] #[]] 122)) w1 → Below w.heap.size w w1) :=
    Lib.hid (fun w1 hb1 => ((Below.refl _ _).alloc (Nat.le_refl _) _).trans (hb1.mono (by simp)))
  have HP : Hid (∀ w1, Below (w.alloc (.cells #[.func (.func 72) #[] #[]] 122)).heap.size (w.alloc (.cells #[.func (.func 72) #[] #[]] 122)) w1 →
      PredG Tryz.prog 76 #[.pointer (some ⟨w.heap.size, 0, none⟩)] notNm w1) := Lib.hid (fun w1 hb1 W x hx hbW => by
    have c1 : w1.cell? ⟨w.heap.size, 0, none⟩ = some (.func (.func 72) #[] #[]) := (hb1.cell (by simp)).trans (by first | (simp [go_sem]; done) | go_simp)
    have hl : w.heap.size < w1.heap.size := by have := hb1.size; simp at this; omega
    exact name2_any w.heap.size x W hx ((hbW.cell hl).trans c1))
  have OK := Lib.hid (fun h1 h2 (a b c : Bool) ha hb hc => nameOk_is s h1 h2 (a := a) (b := b) (c := c) ha hb hc)
  unfold maxLen at hs
  by_cases h1 : 1 ≤ s.size
  · by_cases h2 : s.size ≤ 12
    · have HX := Lib.hid (OK.out h1 h2 _ _ _ rfl rfl rfl)
      clear OK SZ
      obtain ⟨a, ha⟩ : ∃ a, a = allLet (s.extract 0 1) := ⟨_, rfl⟩
      obtain ⟨b, hb⟩ : ∃ b, b = ends s 47 := ⟨_, rfl⟩
      obtain ⟨c, hc⟩ : ∃ c, c = allNm s := ⟨_, rfl⟩
      rw [← ha] at C1 HX
      rw [← hb] at C2 HX
      rw [← hc] at C3 HX
      clear ha hb hc
      obtain ⟨x, hx⟩ : ∃ x, x = nameOk s := ⟨_, rfl⟩
      rw [← hx] at HX ⊢
      clear hx
      cases a <;> cases b
      all_goals
        go_enter Tryz.func44, Tryz.ntmps44
        go_wp2_with (first
          | (go_at_call 73; (with_reducible refine (C1.out _).mono ?_); rintro e w1 ⟨rfl, hb1⟩)
          | (go_at_call 74; (with_reducible refine (C2.out _).mono ?_); rintro e w2 ⟨rfl, rfl⟩)
          | (go_at_call 75; (with_reducible refine (C3.out _ _ (HP.out _ hb1)).mono ?_); rintro e w3 ⟨rfl, hb3⟩))
        go_ret
        exact ⟨ret_bool (by rw [HX.out] <;> simp), by first | exact (hba.out _ hb1).trans (hb3.mono (hba.out _ hb1).size) | exact hba.out _ hb1⟩
    · have HX := Lib.hid (SZ.out (by omega))
      clear OK SZ C1 C2 C3 hba HP
      go_enter Tryz.func44, Tryz.ntmps44
      go_wp2
      go_ret
      exact ⟨ret_bool HX.out.symm, (Below.refl _ _).alloc (Nat.le_refl _) _⟩
  · have HX := Lib.hid (SZ.out (by omega))
    have h0 : s.size = 0 := by omega
    clear OK SZ C1 C2 C3 hba HP
    go_enter Tryz.func44, Tryz.ntmps44
    go_wp2
    go_ret
    exact ⟨ret_bool HX.out.symm, (Below.refl _ _).alloc (Nat.le_refl _) _⟩
end Go.Proofs.YthhjgndaiimgjaaGreatDoor
end
/-! The walk of the reference's IsName. -/
section
set_option linter.unusedVariables false
set_option linter.unusedSimpArgs false
namespace Gno
theorem isNm_no {v : Int} (h0 : 0 ≤ v) (h : isNm v.toNat = false) : isLet v.toNat = false ∧ ¬ (48 ≤ v ∧ v ≤ 57) ∧ v ≠ 47 ∧ v ≠ 95 ∧ v ≠ 43 ∧ v ≠ 45 := by
  simp only [isNm, Bool.or_eq_false_iff, decide_eq_false_iff_not] at h
  obtain ⟨⟨⟨⟨⟨a, b⟩, c⟩, d⟩, e⟩, f⟩ := h
  exact ⟨a, by omega, by omega, by omega, by omega, by omega⟩
theorem isNm_yes {v : Int} (h0 : 0 ≤ v) (h : isNm v.toNat = true) (hl : isLet v.toNat = false) : (48 ≤ v ∧ v ≤ 57) ∨ v = 47 ∨ v = 95 ∨ v = 43 ∨ v = 45 := by
  simp [isNm, hl] at h
  omega
end Gno
namespace Go.Proofs.YthhjgndaiimgjaaGreatDoor
open Go.RowKit Gno
set_option maxRecDepth 100000 in
set_option maxHeartbeats 4000000 in
theorem isName_any (s : ByteArray) (w : World) (hs : s.size ≤ maxLen) :
    Calls Tryz.prog 17 #[.string s] w fun e w' => e = .returned (.bool (nameOk s)) ∧ w = w' := by
  unfold maxLen at hs
  have SZ := Lib.hid (nameOk_size s)
  have OK := Lib.hid (fun h1 h2 (a b c : Bool) ha hb hc => nameOk_is s h1 h2 (a := a) (b := b) (c := c) ha hb hc)
  have W := Lib.hid (fun w => within_any (s.size : Int) 1 12 w)
  by_cases h1 : 1 ≤ s.size
  · by_cases h2 : s.size ≤ 12
    · have hw : withinB (s.size : Int) 1 12 = true := (withinB_iff _ _ _).2 (by omega)
      rw [hw] at W
      have C1 := Lib.hid (fun w => lettersR_any (s.extract 0 1) w (by simp [maxLen]; omega))
      have HX := Lib.hid (OK.out h1 h2 _ _ _ rfl rfl rfl)
      obtain ⟨a, ha⟩ : ∃ a, a = allLet (s.extract 0 1) := ⟨_, rfl⟩
      rw [← ha] at C1 HX
      have hbt := PlainAid.get_bt s
      have he : ends s 47 = decide (PlainAid.bt s (s.size - 1) = 47) := by simp [ends, h1]
      rw [he] at HX
      clear SZ OK hw ha he
      cases a
      · go_enter Tryz.func17, Tryz.ntmps17
        go_wp2_with (first
          | (go_at_call 16; (with_reducible refine (W.out _).mono ?_); rintro e w1 ⟨rfl, rfl⟩)
          | (go_at_call 55; (with_reducible refine (C1.out _).mono ?_); rintro e w1 ⟨rfl, rfl⟩))
        go_ret
        exact ⟨ret_bool (by rw [HX.out] <;> simp), rfl⟩
      · by_cases hz : PlainAid.bt s (s.size - 1) = 47
        · go_enter Tryz.func17, Tryz.ntmps17
          go_wp2_with (first
            | (go_at_call 16; (with_reducible refine (W.out _).mono ?_); rintro e w1 ⟨rfl, rfl⟩)
            | (go_at_call 55; (with_reducible refine (C1.out _).mono ?_); rintro e w1 ⟨rfl, rfl⟩))
          go_ret
          exact ⟨ret_bool (by rw [HX.out] <;> simp [hz]), rfl⟩
        · have HY : Hid (nameOk s = allNm s) := Lib.hid (by rw [HX.out]; simp [hz])
          have hzb : (PlainAid.bt s (s.size - 1) == 47) = false := by simpa using hz
          clear HX hz
          go_enter Tryz.func17, Tryz.ntmps17
          go_wp2_with (first
            | (go_at_call 16; (with_reducible refine (W.out _).mono ?_); rintro e w1 ⟨rfl, rfl⟩)
            | (go_at_call 55; (with_reducible refine (C1.out _).mono ?_); rintro e w1 ⟨rfl, rfl⟩))
          try simp only [hzb]
          clear hzb
          go_loop [3] (fun i => ∃ k : Nat, k ≤ s.size ∧ i = .int .i64 k ∧ nmTo s k) (fun i => s.size - (intOf i).toNat)
          case atStart => exact ⟨0, Nat.zero_le _, rfl, by simp [nmTo]⟩
          case round =>
            obtain ⟨k, hk, rfl, h0⟩ := hrel
            have H0 := Lib.hid h0
            clear h0
            by_cases hlt : k < s.size
            · have l1 := fun w => lettersR_any (s.extract k (k + 1)) w (by simp [maxLen]; omega)
              rw [allLet_one s k hlt] at l1
              have L1 := Lib.hid l1
              have hb0 := PlainAid.bt_nonneg s k
              have hb1 := PlainAid.bt_le s k
              have HN := Lib.hid (nmTo_snoc s k hlt H0.out)
              have HO := Lib.hid (allNm_no s k hlt)
              clear l1
              cases hn : isNm (PlainAid.bt s k).toNat
              · have HE := Lib.hid (HY.out.trans (HO.out hn))
                obtain ⟨q0, q1, q2, q3, q4, q5⟩ := isNm_no hb0 hn
                rw [q0] at L1
                clear hn q0
                have b2 : (PlainAid.bt s k != 47) = true := by simpa using q2
                have b3 : (PlainAid.bt s k != 95) = true := by simpa using q3
                have b4 : (PlainAid.bt s k != 43) = true := by simpa using q4
                have b5 : (PlainAid.bt s k != 45) = true := by simpa using q5
                clear q2 q3 q4 q5
                by_cases q6 : 48 ≤ PlainAid.bt s k
                · have q7 : decide (PlainAid.bt s k ≤ 57) = false := by simp; omega
                  clear q1
                  go_wp2_with (first | (go_at_call 55; (with_reducible refine (L1.out _).mono ?_); rintro e w1 ⟨rfl, rfl⟩))
                  go_ret
                  exact ⟨ret_bool HE.out.symm, rfl⟩
                · clear q1
                  go_wp2_with (first | (go_at_call 55; (with_reducible refine (L1.out _).mono ?_); rintro e w1 ⟨rfl, rfl⟩))
                  go_ret
                  exact ⟨ret_bool HE.out.symm, rfl⟩
              · have HE := Lib.hid (HN.out hn)
                cases hl : isLet (PlainAid.bt s k).toNat
                · have q := isNm_yes hb0 hn hl
                  rw [hl] at L1
                  clear hn hl
                  by_cases q1 : 48 ≤ PlainAid.bt s k ∧ PlainAid.bt s k ≤ 57
                  · obtain ⟨q2, q3⟩ := q1
                    clear q
                    go_wp2_with (first | (go_at_call 55; (with_reducible refine (L1.out _).mono ?_); rintro e w1 ⟨rfl, rfl⟩))
                    go_round
                    case rel => exact ⟨k + 1, by omega, by go_num, HE.out⟩
                    case measure => simp [intOf]; omega
                  · have q2 := q.resolve_left q1
                    clear q q1
                    rcases q2 with q2 | q2 | q2 | q2
                    · have f0 : ¬ 48 ≤ PlainAid.bt s k := by omega
                      have f2 : (PlainAid.bt s k != 47) = false := by simp; omega
                      clear q2
                      go_wp2_with (first | (go_at_call 55; (with_reducible refine (L1.out _).mono ?_); rintro e w1 ⟨rfl, rfl⟩))
                      go_round
                      case rel => exact ⟨k + 1, by omega, by go_num, HE.out⟩
                      case measure => simp [intOf]; omega
                    · have f0 : 48 ≤ PlainAid.bt s k := by omega
                      have f1 : decide (PlainAid.bt s k ≤ 57) = false := by simp; omega
                      have f2 : (PlainAid.bt s k != 47) = true := by simp; omega
                      have f3 : (PlainAid.bt s k != 95) = false := by simp; omega
                      clear q2
                      go_wp2_with (first | (go_at_call 55; (with_reducible refine (L1.out _).mono ?_); rintro e w1 ⟨rfl, rfl⟩))
                      go_round
                      case rel => exact ⟨k + 1, by omega, by go_num, HE.out⟩
                      case measure => simp [intOf]; omega
                    · have f0 : ¬ 48 ≤ PlainAid.bt s k := by omega
                      have f2 : (PlainAid.bt s k != 47) = true := by simp; omega
                      have f3 : (PlainAid.bt s k != 95) = true := by simp; omega
                      have f4 : (PlainAid.bt s k != 43) = false := by simp; omega
                      clear q2
                      go_wp2_with (first | (go_at_call 55; (with_reducible refine (L1.out _).mono ?_); rintro e w1 ⟨rfl, rfl⟩))
                      go_round
                      case rel => exact ⟨k + 1, by omega, by go_num, HE.out⟩
                      case measure => simp [intOf]; omega
                    · have f0 : ¬ 48 ≤ PlainAid.bt s k := by omega
                      have f2 : (PlainAid.bt s k != 47) = true := by simp; omega
                      have f3 : (PlainAid.bt s k != 95) = true := by simp; omega
                      have f4 : (PlainAid.bt s k != 43) = true := by simp; omega
                      have f5 : (PlainAid.bt s k != 45) = false := by simp; omega
                      clear q2
                      go_wp2_with (first | (go_at_call 55; (with_reducible refine (L1.out _).mono ?_); rintro e w1 ⟨rfl, rfl⟩))
                      go_round
                      case rel => exact ⟨k + 1, by omega, by go_num, HE.out⟩
                      case measure => simp [intOf]; omega
                · rw [hl] at L1
                  clear hn hl
                  go_wp2_with (first | (go_at_call 55; (with_reducible refine (L1.out _).mono ?_); rintro e w1 ⟨rfl, rfl⟩))
                  go_round
                  case rel => exact ⟨k + 1, by omega, by go_num, HE.out⟩
                  case measure => simp [intOf]; omega
            · have HE := Lib.hid (HY.out.trans (nmTo_end s k hlt H0.out))
              go_wp2
              go_ret
              exact ⟨ret_bool HE.out.symm, rfl⟩
    · have hw : withinB (s.size : Int) 1 12 = false := (withinB_no _ _ _).2 (by omega)
      rw [hw] at W
      have HX := Lib.hid (SZ.out (by omega))
      clear SZ OK hw
      go_enter Tryz.func17, Tryz.ntmps17
      go_wp2_with (go_at_call 16; (with_reducible refine (W.out _).mono ?_); rintro e w1 ⟨rfl, rfl⟩)
      go_ret
      exact ⟨ret_bool HX.out.symm, rfl⟩
  · have hw : withinB (s.size : Int) 1 12 = false := (withinB_no _ _ _).2 (by omega)
    rw [hw] at W
    have HX := Lib.hid (SZ.out (by omega))
    clear SZ OK hw
    go_enter Tryz.func17, Tryz.ntmps17
    go_wp2_with (go_at_call 16; (with_reducible refine (W.out _).mono ?_); rintro e w1 ⟨rfl, rfl⟩)
    go_ret
    exact ⟨ret_bool HX.out.symm, rfl⟩
end Go.Proofs.YthhjgndaiimgjaaGreatDoor
end
/-! Plain: the first one of which p holds; texts that are one; what is asked of all of a list; the order of texts. -/
section
set_option linter.unusedVariables false
set_option linter.unusedSimpArgs false
namespace Gno
open Go
/-- the number of the first one from which p holds; -1: none. -/
def fst {α : Type} (p : α → Bool) : List α → Int → Int
  | [], _ => -1
  | b :: t, k => if p b = true then k else fst p t (k + 1)
theorem fst_drop {α : Type} {p : α → Bool} {l : List α} {i : Nat} {b : α} (h : l[i]? = some b) : (p b = true → fst p (l.drop i) i = i) ∧ (p b = false → fst p (l.drop i) i = fst p (l.drop (i + 1)) ((i + 1 : Nat) : Int)) := by
  have hi : i < l.length := (List.getElem?_eq_some_iff.1 h).1
  have he : l[i] = b := (List.getElem?_eq_some_iff.1 h).2
  rw [List.drop_eq_getElem_cons hi, he]
  exact ⟨fun q => by rw [fst, if_pos q], fun q => by rw [fst, if_neg (by simp [q])]; rfl⟩
theorem fst_end {α : Type} {p : α → Bool} {l : List α} {i : Nat} (h : ¬ i < l.length) : fst p (l.drop i) i = -1 := by
  rw [List.drop_of_length_le (by omega)]; rfl
def hasP {α : Type} (p : α → Bool) (l : List α) : Bool := decide (0 ≤ fst p l 0)
theorem fst_nn {α : Type} (p : α → Bool) : ∀ (l : List α) (k : Int), 0 ≤ k → (0 ≤ fst p l k ↔ ∃ b ∈ l, p b = true)
  | [], k, h => by simp [fst]
  | b :: t, k, h => by
    unfold fst
    by_cases q : p b = true
    · rw [if_pos q]; exact ⟨fun _ => ⟨b, by simp, q⟩, fun _ => h⟩
    · rw [if_neg q, fst_nn p t (k + 1) (by omega)]
      constructor
      · rintro ⟨c, hc, hp⟩; exact ⟨c, by simp [hc], hp⟩
      · rintro ⟨c, hc, hp⟩
        rcases List.mem_cons.1 hc with rfl | hc
        · exact absurd hp q
        · exact ⟨c, hc, hp⟩
/-- are the two texts one? -/
def same (a b : ByteArray) : Bool := a.toList == b.toList
theorem same_iff (a b : ByteArray) : same a b = true ↔ a = b := by
  unfold same
  rw [beq_iff_eq, ByteArray.toList_eq, ByteArray.toList_eq]
  constructor
  · intro h; exact ByteArray.ext (Array.toList_inj.1 h)
  · intro h; rw [h]
theorem same_comm (a b : ByteArray) : same a b = same b a := by
  rw [Bool.eq_iff_iff, same_iff, same_iff]; exact eq_comm
theorem fst_range {α : Type} (p : α → Bool) : ∀ (l : List α) (k : Int), 0 ≤ k → fst p l k = -1 ∨ (k ≤ fst p l k ∧ fst p l k < k + l.length)
  | [], k, h => .inl rfl
  | b :: t, k, h => by
    unfold fst
    by_cases q : p b = true
    · rw [if_pos q]; exact .inr ⟨Int.le_refl _, by simp; omega⟩
    · rw [if_neg q]
      rcases fst_range p t (k + 1) (by omega) with e | e
      · exact .inl e
      · exact .inr ⟨by omega, by simp; omega⟩
/-- is one of the first n asked so? -/
def anyTo (q : Nat → Bool) : Nat → Bool
  | 0 => false
  | i + 1 => anyTo q i || q i
theorem anyTo_mono {q : Nat → Bool} {i : Nat} (h : anyTo q i = true) : ∀ d, anyTo q (i + d) = true
  | 0 => h
  | d + 1 => by
    show anyTo q (i + d + 1) = true
    rw [anyTo, anyTo_mono h d]; rfl
theorem anyTo_yes {q : Nat → Bool} {i n : Nat} (h : i < n) (hq : q i = true) : anyTo q n = true := by
  have h1 : anyTo q (i + 1) = true := by rw [anyTo, hq]; simp
  have := anyTo_mono h1 (n - (i + 1))
  rw [show i + 1 + (n - (i + 1)) = n by omega] at this
  exact this
theorem anyTo_no {q : Nat → Bool} {i : Nat} (h : anyTo q i = false) (hq : q i = false) : anyTo q (i + 1) = false := by
  rw [anyTo, h, hq]; rfl
theorem anyTo_all {q : Nat → Bool} {n : Nat} : anyTo q n = false ↔ ∀ i, i < n → q i = false := by
  induction n with
  | zero => exact ⟨fun _ i h => by omega, fun _ => rfl⟩
  | succ n ih =>
    rw [anyTo, Bool.or_eq_false_iff, ih]
    constructor
    · rintro ⟨a, b⟩ i h
      by_cases e : i = n
      · rw [e]; exact b
      · exact a i (by omega)
    · intro h
      exact ⟨fun i hi => h i (by omega), h n (by omega)⟩
theorem anyTo_iff {q : Nat → Bool} {n : Nat} : anyTo q n = true ↔ ∃ i, i < n ∧ q i = true := by
  constructor
  · intro h
    have h1 : ¬ (∀ i, i < n → q i = false) := fun k => by rw [anyTo_all.2 k] at h; cases h
    false_or_by_contra
    rename_i hn
    exact h1 fun i hi => by
      cases e : q i
      · rfl
      · exact absurd ⟨i, hi, e⟩ hn
  · rintro ⟨i, h, hq⟩; exact anyTo_yes h hq
/-- p of the i-th one. -/
def atI {α : Type} (p : Nat → α → Bool) (l : List α) (i : Nat) : Bool := match l[i]? with | some x => p i x | none => false
def anyI {α : Type} (p : Nat → α → Bool) (l : List α) : Bool := anyTo (atI p l) l.length
theorem atI_eq {α : Type} {p : Nat → α → Bool} {l : List α} {i : Nat} {x : α} (h : l[i]? = some x) : atI p l i = p i x := by unfold atI; rw [h]
theorem anyI_iff {α : Type} {p : Nat → α → Bool} {l : List α} : anyI p l = true ↔ ∃ i x, l[i]? = some x ∧ p i x = true := by
  unfold anyI
  rw [anyTo_iff]
  constructor
  · rintro ⟨i, h, hq⟩
    rw [atI_eq (List.getElem?_eq_getElem h)] at hq
    exact ⟨i, l[i], List.getElem?_eq_getElem h, hq⟩
  · rintro ⟨i, x, h, hq⟩
    exact ⟨i, (List.getElem?_eq_some_iff.1 h).1, by rw [atI_eq h]; exact hq⟩
theorem anyI_yes {α : Type} {p : Nat → α → Bool} {l : List α} {i : Nat} {x : α} (h : l[i]? = some x) (hp : p i x = true) : anyI p l = true := anyI_iff.2 ⟨i, x, h, hp⟩
theorem anyI_no {α : Type} {p : Nat → α → Bool} {l : List α} {i : Nat} {x : α} (h : l[i]? = some x) (h0 : anyTo (atI p l) i = false) (hp : p i x = false) : anyTo (atI p l) (i + 1) = false :=
  anyTo_no h0 (by rw [atI_eq h]; exact hp)
theorem anyI_end {α : Type} {p : Nat → α → Bool} {l : List α} {i : Nat} (h : ¬ i < l.length) (hi : i ≤ l.length) (h0 : anyTo (atI p l) i = false) : anyI p l = false := by
  have : i = l.length := by omega
  unfold anyI; rw [← this]; exact h0
theorem anyI_any {α : Type} (p : α → Bool) (l : List α) : anyI (fun _ => p) l = l.any p := by
  rw [Bool.eq_iff_iff, anyI_iff, List.any_eq_true]
  constructor
  · rintro ⟨i, x, h, hp⟩; exact ⟨x, List.mem_of_getElem? h, hp⟩
  · rintro ⟨x, h, hp⟩
    obtain ⟨i, hi⟩ := List.getElem?_of_mem h
    exact ⟨i, x, hi, hp⟩

/-- the order of texts. -/
def lessB (a b : ByteArray) : Bool := Op.bytesLess a.toList b.toList
theorem take_snoc' {α : Type} {l : List α} {i : Nat} {x : α} (h : l[i]? = some x) : l.take (i + 1) = l.take i ++ [x] := by
  have hi : i < l.length := (List.getElem?_eq_some_iff.1 h).1
  rw [List.take_succ_eq_append_getElem hi, (List.getElem?_eq_some_iff.1 h).2]
end Gno
end
/-! The walk of the reference's twice. -/
section
set_option linter.unusedVariables false
set_option linter.unusedSimpArgs false
namespace Gno
/-- is the i-th one among the first m? -/
def amongTo (l : List ByteArray) (v : ByteArray) (m : Nat) : Bool := (l.take m).any fun x => same v x
/-- is one of the first i told twice? -/
def dupTo (l : List ByteArray) : Nat → Bool
  | 0 => false
  | i + 1 => dupTo l i || (match l[i]? with | some v => amongTo l v i | none => false)
def dup (l : List ByteArray) : Bool := dupTo l l.length
theorem amongTo_step {l : List ByteArray} {v x : ByteArray} {m : Nat} (h : l[m]? = some x) : amongTo l v (m + 1) = (amongTo l v m || same v x) := by
  have hm : m < l.length := (List.getElem?_eq_some_iff.1 h).1
  have he : l[m] = x := (List.getElem?_eq_some_iff.1 h).2
  unfold amongTo
  rw [List.take_succ_eq_append_getElem hm, List.any_append, he]
  simp
theorem amongTo_mono {l : List ByteArray} {v : ByteArray} {m m' : Nat} (h : amongTo l v m = true) (hm : m ≤ m') : amongTo l v m' = true := by
  unfold amongTo at h ⊢
  rw [List.any_eq_true] at h ⊢
  obtain ⟨x, hx, hp⟩ := h
  exact ⟨x, (List.take_subset_take_left l hm) hx, hp⟩
theorem dupTo_mono {l : List ByteArray} {i : Nat} (h : dupTo l i = true) : ∀ d, dupTo l (i + d) = true
  | 0 => h
  | d + 1 => by
    show dupTo l (i + d + 1) = true
    rw [dupTo, dupTo_mono h d]; rfl
theorem dup_yes {l : List ByteArray} {i m : Nat} {v : ByteArray} (hi : l[i]? = some v) (hm : m ≤ i) (h : amongTo l v m = true) : dup l = true := by
  have hl : i < l.length := (List.getElem?_eq_some_iff.1 hi).1
  have h1 : dupTo l (i + 1) = true := by rw [dupTo, hi]; simp [amongTo_mono h hm]
  have := dupTo_mono h1 (l.length - (i + 1))
  rw [show i + 1 + (l.length - (i + 1)) = l.length by omega] at this
  exact this
theorem dupTo_no {l : List ByteArray} {i : Nat} {v : ByteArray} (hi : l[i]? = some v) (h0 : dupTo l i = false) (h : amongTo l v i = false) : dupTo l (i + 1) = false := by
  rw [dupTo, hi, h0]; simp [h]
end Gno
namespace Go.Proofs.YthhjgndaiimgjaaGreatDoor
open Go.RowKit Gno
/-- the texts lie in memory, a cell each. -/
def StrsAt (w : World) (B : Nat) (A : Option Addr) (n : Nat) (l : List ByteArray) : Prop :=
  l.length = n ∧ n ≤ maxLen ∧ (0 < n → ∃ b o, A = some ⟨b, o, none⟩ ∧ b < B ∧ ∀ (i : Nat) s, l[i]? = some s → w.cell? ⟨b, o + i, none⟩ = some (.string s))
theorem StrsAt.below {B B' : Nat} {w w' : World} {A : Option Addr} {n : Nat} {l : List ByteArray} (h : StrsAt w B A n l) (hb : Below B' w w') (hB : B ≤ B') : StrsAt w' B A n l :=
  ⟨h.1, h.2.1, fun hn => by
    obtain ⟨b, o, e, hbB, hc⟩ := h.2.2 hn
    have hl : b < B' := by omega
    exact ⟨b, o, e, hbB, fun i p hi => (hb.cell hl).trans (hc i p hi)⟩⟩
theorem StrsAt.more {B B' : Nat} {w : World} {A : Option Addr} {n : Nat} {l : List ByteArray} (h : StrsAt w B A n l) (hB : B ≤ B') : StrsAt w B' A n l :=
  ⟨h.1, h.2.1, fun hn => by
    obtain ⟨b, o, e, hbB, hc⟩ := h.2.2 hn
    exact ⟨b, o, e, by omega, hc⟩⟩
set_option maxRecDepth 100000 in
set_option maxHeartbeats 4000000 in
theorem twice_any (A : Option Addr) (n cap : Nat) (l : List ByteArray) (w : World) (hR : StrsAt w w.heap.size A n l) :
    Calls Tryz.prog 18 #[.slice A n cap] w fun e w' => e = .returned (.bool (dup l)) ∧ Below w.heap.size w w' := by
  have hn : n ≤ 9223372036854775807 := hR.2.1
  have HR := Lib.hid hR
  clear hR
  go_enter Tryz.func18, Tryz.ntmps18
  go_wp2
  go_loopw [3, 4] (fun b0 _ wr => ∃ i : Nat, i ≤ n ∧ b0 = .int .i64 i ∧ Hid (dupTo l i = false) ∧ Below w.heap.size w wr) (fun b0 _ _ => n - (intOf b0).toNat)
  case atStart => exact ⟨0, Nat.zero_le _, rfl, Lib.hid rfl, Below.refl _ _⟩
  case round =>
    obtain ⟨i, hi, rfl, hfd, hb⟩ := hrel
    obtain ⟨wo, hwo⟩ : ∃ wo : World, wo = wr := ⟨_, rfl⟩
    rw [← hwo]
    rw [← hwo] at hb
    clear hwo
    by_cases hlt : i < n
    · obtain ⟨b, o, hA, hbB, hc⟩ := HR.out.2.2 (by omega)
      subst hA
      have hl : i < l.length := by rw [HR.out.1]; exact hlt
      have HC := Lib.hid hc
      obtain ⟨v, hv⟩ : ∃ v, l[i]? = some v := ⟨_, List.getElem?_eq_getElem hl⟩
      have e0 := hc i v hv
      have HVI := Lib.hid hv
      clear hc hl hv
      go_wp2
      go_loopw [4] (fun b1 wr2 => ∃ m : Nat, m ≤ i ∧ b1 = .int .i64 m ∧ Hid (amongTo l v m = false) ∧ Below w.heap.size w wr2) (fun b1 _ => i - (intOf b1).toNat)
      case atStart => exact ⟨0, Nat.zero_le _, rfl, Lib.hid (by simp [amongTo]), hb⟩
      case round =>
        obtain ⟨m, hm, rfl, hfm, hb2⟩ := hrel
        by_cases hmi : m < i
        · have hl : m < l.length := by rw [HR.out.1]; omega
          obtain ⟨x, hx⟩ : ∃ x, l[m]? = some x := ⟨_, List.getElem?_eq_getElem hl⟩
          have g0 := (hb2.cell hbB).trans e0
          have g1 := (hb2.cell hbB).trans (HC.out m x hx)
          have ST := Lib.hid (amongTo_step (v := v) hx)
          clear hl hx e0
          cases hs : same v x
          · have HX : Hid (amongTo l v (m + 1) = false) := Lib.hid (by rw [ST.out, hfm.out, hs]; rfl)
            have hq : (v.toList == x.toList) = false := hs
            clear hs hfm ST
            go_wp2
            go_region
            go_wp2
            go_roundw
            case rel => exact ⟨m + 1, by omega, by go_num, HX, hb2.drew⟩
            case measure => simp [intOf]; omega
          · have HX : Hid (dup l = true) := Lib.hid (dup_yes (m := m + 1) HVI.out (by omega) (by rw [ST.out, hs]; simp))
            have hq : (v.toList == x.toList) = true := hs
            clear hs hfm ST
            go_wp2
            go_region
            go_wp2
            go_ret
            exact ⟨ret_bool HX.out.symm, hb2.drew⟩
        · have HX := Lib.hid (dupTo_no HVI.out hfd.out (by have : m = i := by omega
                                                           rw [← this]; exact hfm.out))
          go_wp2
          go_roundw
          case rel => exact ⟨i + 1, by omega, by go_num, HX, hb2⟩
          case measure => simp [intOf]; omega
    · have HX : Hid (dup l = false) := Lib.hid (by
        have : i = l.length := by have := HR.out.1; omega
        unfold dup
        rw [← this]; exact hfd.out)
      go_wp2
      go_ret
      exact ⟨ret_bool HX.out.symm, hb⟩
end Go.Proofs.YthhjgndaiimgjaaGreatDoor
end
/-! The walks of rules.Check and of the reference's CheckRule. -/
section
set_option linter.unusedVariables false
set_option linter.unusedSimpArgs false
namespace Go.Proofs.YthhjgndaiimgjaaGreatDoor
open Go.RowKit Gno

/-- a box of nine cells, seen in a later world. -/
theorem box9 {w w3 : World} {c0 c1 c2 c3 c4 c5 c6 c7 c8 : Value} {T : TypeId} (hb : Below (w.heap.size + 1) (w.alloc (.cells #[c0, c1, c2, c3, c4, c5, c6, c7, c8] T)) w3) :
    w3.cell? ⟨w.heap.size, 0, none⟩ = some c0 ∧ w3.cell? ⟨w.heap.size, 1, none⟩ = some c1 ∧ w3.cell? ⟨w.heap.size, 2, none⟩ = some c2 ∧ w3.cell? ⟨w.heap.size, 3, none⟩ = some c3 ∧ w3.cell? ⟨w.heap.size, 4, none⟩ = some c4 ∧
    w3.cell? ⟨w.heap.size, 5, none⟩ = some c5 ∧ w3.cell? ⟨w.heap.size, 6, none⟩ = some c6 ∧ w3.cell? ⟨w.heap.size, 7, none⟩ = some c7 ∧ w3.cell? ⟨w.heap.size, 8, none⟩ = some c8 := by
  refine ⟨?_, ?_, ?_, ?_, ?_, ?_, ?_, ?_, ?_⟩ <;> exact (hb.cell (by simp)).trans (by simp)

set_option maxRecDepth 100000 in
set_option maxHeartbeats 4000000 in
theorem rcheck_any (fy ty mo k wk d a sv : Int) (le : ByteArray) (w : World) (hle : le.size ≤ maxLen) :
    Calls Tryz.prog 46 #[.agg #[.int .i64 fy, .int .i64 ty, .int .i64 mo, .int .i64 k, .int .i64 wk, .int .i64 d, .int .i64 a, .int .i64 sv, .string le]] w fun e w' => e = .returned (.int .i64 (ruleE fy ty mo k wk d a sv le)) ∧ Below w.heap.size w w' := by
  have hle' : le.size ≤ 9223372036854775807 := hle
  have hcases : ∀ b : Bool, b = true ∨ b = false := by decide
  rcases hcases (ruleBasic fy ty mo a sv) with hB | hB
  · obtain ⟨b1, b2, b3, ⟨b4, b5⟩, ⟨b6, b7⟩, b8, b9⟩ := (ruleBasic_iff _ _ _ _ _).1 hB
    by_cases ho : onE k wk d = 0
    · have hob : (onE k wk d != 0) = false := by simpa using ho
      rcases hcases (letOk le) with hL | hL
      · have hL2 : le.size ≤ 12 ∧ allLet le = true := by simpa [letOk] using hL
        obtain ⟨l1, l2⟩ := hL2
        have RY := Lib.hid (fun y h1 h2 h3 => ruleE_year (fy := fy) (ty := ty) (mo := mo) (k := k) (wk := wk) (d := d) (a := a) (sv := sv) (le := le) hB ho hL (y := y) h1 h2 h3)
        have RO := Lib.hid (ruleE_ok (fy := fy) (ty := ty) (mo := mo) (k := k) (wk := wk) (d := d) (a := a) (sv := sv) (le := le) hB ho hL)
        have hYT : Hid (yearsTo fy fy mo k wk d) := yearsTo_start
        clear hB ho hL
        go_enter Tryz.func46, Tryz.ntmps46
        go_wp2_with (first
          | (go_at_call 77; refine (pcheck_any _ _ _ _).mono ?_; rintro e w1 ⟨rfl, hb1⟩; simp only [World.size_alloc] at hb1; obtain ⟨c0, c1, c2, c3, c4, c5, c6, c7, c8⟩ := box9 hb1)
          | (go_at_call 73; refine (letters_any _ _).mono ?_; rintro e w2 ⟨rfl, hb2⟩; have hb3 := hb1.trans (hb2.mono (box_le hb1)); clear hb1 hb2 c0 c1 c2 c3 c4 c5 c6 c7 c8; obtain ⟨c0, c1, c2, c3, c4, c5, c6, c7, c8⟩ := box9 hb3))
        go_loopw [4] (fun v wr => ∃ y : Int, fy ≤ y ∧ y ≤ ty + 1 ∧ v = .int .i64 y ∧ yearsTo fy y mo k wk d ∧ Below (w.heap.size + 1) (w.alloc (.cells #[.int .i64 fy, .int .i64 ty, .int .i64 mo, .int .i64 k, .int .i64 wk, .int .i64 d, .int .i64 a, .int .i64 sv, .string le] 53)) wr) (fun v _ => (ty + 1 - intOf v).toNat)
        case atStart => exact ⟨fy, by omega, by omega, rfl, hYT.out, hb3⟩
        case round =>
          obtain ⟨y, y1, y2, rfl, hyt, hbr⟩ := hrel
          have HY := Lib.hid hyt
          clear hyt hb3 hYT c0 c1 c2 c3 c4 c5 c6 c7 c8
          obtain ⟨c0, c1, c2, c3, c4, c5, c6, c7, c8⟩ := box9 hbr
          by_cases hy : y ≤ ty
          · by_cases hf : findE y mo k wk d = 0
            · have hfb : (findE y mo k wk d != 0) = false := by simpa using hf
              have HN := Lib.hid (yearsTo_step HY.out hf)
              clear hf
              go_wp2_with (go_at_call 78; refine (find_any _ _ _ _ _ _).mono ?_; rintro e w4 ⟨rfl, hb4⟩; have hb5 := hbr.trans (hb4.mono (box_le hbr)); clear hb4 hbr)
              go_roundw
              case rel => exact ⟨y + 1, by omega, by omega, rfl, HN.out, hb5⟩
              case measure => simp [intOf]; omega
            · have hfb : (findE y mo k wk d != 0) = true := by simpa using hf
              have HN := Lib.hid (RY.out y y1 hy hf)
              clear hf
              go_wp2_with (go_at_call 78; refine (find_any _ _ _ _ _ _).mono ?_; rintro e w4 ⟨rfl, hb4⟩; have hb5 := hbr.trans (hb4.mono (box_le hbr)); clear hb4 hbr)
              go_ret
              exact ⟨ret_int HN.out.symm, box_below hb5⟩
          · have HN := Lib.hid (RO.out (yearsTo_end HY.out (by omega)))
            go_wp2
            go_ret
            exact ⟨ret_int HN.out.symm, box_below hbr⟩
      · have HE := Lib.hid (ruleE_let (mo := mo) hB ho hL)
        by_cases l1 : le.size ≤ 12
        · have l2 : allLet le = false := by simpa [letOk, l1] using hL
          clear hB ho hL
          go_enter Tryz.func46, Tryz.ntmps46
          go_wp2_with (first
            | (go_at_call 77; refine (pcheck_any _ _ _ _).mono ?_; rintro e w1 ⟨rfl, hb1⟩; simp only [World.size_alloc] at hb1; obtain ⟨c0, c1, c2, c3, c4, c5, c6, c7, c8⟩ := box9 hb1)
            | (go_at_call 73; refine (letters_any _ _).mono ?_; rintro e w2 ⟨rfl, hb2⟩; have hb3 := hb1.trans (hb2.mono (box_le hb1)); clear hb1 hb2 c0 c1 c2 c3 c4 c5 c6 c7 c8; obtain ⟨c0, c1, c2, c3, c4, c5, c6, c7, c8⟩ := box9 hb3))
          go_ret
          exact ⟨ret_int HE.out.symm, box_below hb3⟩
        · clear hB ho hL
          go_enter Tryz.func46, Tryz.ntmps46
          go_wp2_with (first
            | (go_at_call 77; refine (pcheck_any _ _ _ _).mono ?_; rintro e w1 ⟨rfl, hb1⟩; simp only [World.size_alloc] at hb1; obtain ⟨c0, c1, c2, c3, c4, c5, c6, c7, c8⟩ := box9 hb1))
          go_ret
          exact ⟨ret_int HE.out.symm, box_below hb1⟩
    · have hob : (onE k wk d != 0) = true := by simpa using ho
      have HE := Lib.hid (ruleE_on (le := le) (mo := mo) hB ho)
      clear hB ho
      go_enter Tryz.func46, Tryz.ntmps46
      go_wp2_with (first
        | (go_at_call 77; refine (pcheck_any _ _ _ _).mono ?_; rintro e w1 ⟨rfl, hb1⟩; simp only [World.size_alloc] at hb1; obtain ⟨c0, c1, c2, c3, c4, c5, c6, c7, c8⟩ := box9 hb1))
      go_ret
      exact ⟨ret_int HE.out.symm, box_below hb1⟩
  · have HE := Lib.hid (ruleE_basic (k := k) (wk := wk) (d := d) (le := le) hB)
    have hB' : ¬ (1970 ≤ fy ∧ fy ≤ ty ∧ ty ≤ 2029 ∧ (1 ≤ mo ∧ mo ≤ 12) ∧ (0 ≤ a ∧ a ≤ 86400) ∧ (0 ≤ sv ∧ sv ≤ 7200)) := fun x => by
      rw [(ruleBasic_iff _ _ _ _ _).2 x] at hB; cases hB
    clear hB
    by_cases q0 : fy < 1970
    · clear hB'
      go_enter Tryz.func46, Tryz.ntmps46
      go_wp2
      go_ret
      exact ⟨ret_int HE.out.symm, (Below.refl _ _).alloc (Nat.le_refl _) _⟩
    · skip
      by_cases q1 : ty < fy
      · clear hB'
        go_enter Tryz.func46, Tryz.ntmps46
        go_wp2
        go_ret
        exact ⟨ret_int HE.out.symm, (Below.refl _ _).alloc (Nat.le_refl _) _⟩
      · skip
        by_cases q2 : 2029 < ty
        · clear hB'
          go_enter Tryz.func46, Tryz.ntmps46
          go_wp2
          go_ret
          exact ⟨ret_int HE.out.symm, (Below.refl _ _).alloc (Nat.le_refl _) _⟩
        · skip
          by_cases q3 : mo < 1
          · clear hB'
            go_enter Tryz.func46, Tryz.ntmps46
            go_wp2
            go_ret
            exact ⟨ret_int HE.out.symm, (Below.refl _ _).alloc (Nat.le_refl _) _⟩
          · skip
            by_cases q4 : 12 < mo
            · clear hB'
              go_enter Tryz.func46, Tryz.ntmps46
              go_wp2
              go_ret
              exact ⟨ret_int HE.out.symm, (Below.refl _ _).alloc (Nat.le_refl _) _⟩
            · skip
              by_cases q5 : a < 0
              · clear hB'
                go_enter Tryz.func46, Tryz.ntmps46
                go_wp2
                go_ret
                exact ⟨ret_int HE.out.symm, (Below.refl _ _).alloc (Nat.le_refl _) _⟩
              · skip
                by_cases q6 : 86400 < a
                · clear hB'
                  go_enter Tryz.func46, Tryz.ntmps46
                  go_wp2
                  go_ret
                  exact ⟨ret_int HE.out.symm, (Below.refl _ _).alloc (Nat.le_refl _) _⟩
                · skip
                  by_cases q7 : sv < 0
                  · clear hB'
                    go_enter Tryz.func46, Tryz.ntmps46
                    go_wp2
                    go_ret
                    exact ⟨ret_int HE.out.symm, (Below.refl _ _).alloc (Nat.le_refl _) _⟩
                  · skip
                    have q9 : 7200 < sv := by omega
                    clear hB'
                    go_enter Tryz.func46, Tryz.ntmps46
                    go_wp2
                    go_ret
                    exact ⟨ret_int HE.out.symm, (Below.refl _ _).alloc (Nat.le_refl _) _⟩
end Go.Proofs.YthhjgndaiimgjaaGreatDoor
end
/-! The walk of the reference's CheckRule. -/
section
set_option linter.unusedVariables false
set_option linter.unusedSimpArgs false
namespace Go.Proofs.YthhjgndaiimgjaaGreatDoor
open Go.RowKit Gno

set_option maxRecDepth 100000 in
set_option maxHeartbeats 4000000 in
theorem checkRule_any (fy ty mo k wk d a sv : Int) (le : ByteArray) (w : World) (hle : le.size ≤ maxLen) :
    Calls Tryz.prog 19 #[.agg #[.int .i64 fy, .int .i64 ty, .int .i64 mo, .int .i64 k, .int .i64 wk, .int .i64 d, .int .i64 a, .int .i64 sv, .string le]] w fun e w' => e = .returned (.int .i64 (ruleE fy ty mo k wk d a sv le)) ∧ Below w.heap.size w w' := by
  have hle' : le.size ≤ 9223372036854775807 := hle
  have hcases : ∀ b : Bool, b = true ∨ b = false := by decide
  rcases hcases (ruleBasic fy ty mo a sv) with hB | hB
  · obtain ⟨b1, b2, b3, ⟨b4, b5⟩, ⟨b6, b7⟩, b8, b9⟩ := (ruleBasic_iff _ _ _ _ _).1 hB
    have g1 : isYear fy = true := (isYear_iff _).2 ⟨by omega, by omega⟩
    have g2 : isYear ty = true := (isYear_iff _).2 ⟨by omega, by omega⟩
    have g3 : isMonth mo = true := (isMonth_iff _).2 ⟨b4, b5⟩
    have g4 : withinB a 0 86400 = true := (withinB_iff _ _ _).2 ⟨b6, b7⟩
    have g5 : withinB sv 0 7200 = true := (withinB_iff _ _ _).2 ⟨b8, b9⟩
    by_cases ho : onE k wk d = 0
    · have hob : (onE k wk d != 0) = false := by simpa using ho
      rcases hcases (letOk le) with hL | hL
      · have hL2 : le.size ≤ 12 ∧ allLet le = true := by simpa [letOk] using hL
        obtain ⟨l1, l2⟩ := hL2
        have RY := Lib.hid (fun y h1 h2 h3 => ruleE_year (fy := fy) (ty := ty) (mo := mo) (k := k) (wk := wk) (d := d) (a := a) (sv := sv) (le := le) hB ho hL (y := y) h1 h2 h3)
        have RO := Lib.hid (ruleE_ok (fy := fy) (ty := ty) (mo := mo) (k := k) (wk := wk) (d := d) (a := a) (sv := sv) (le := le) hB ho hL)
        have hYT : Hid (yearsTo fy fy mo k wk d) := yearsTo_start
        clear hB ho hL
        go_enter Tryz.func19, Tryz.ntmps19
        go_wp2_with (first
          | (go_at_call 56; refine (isYearR_any _ _).mono ?_; rintro e w' ⟨rfl, rfl⟩)
          | (go_at_call 57; refine (isMonthR_any _ _).mono ?_; rintro e w' ⟨rfl, rfl⟩)
          | (go_at_call 16; refine (within_any _ _ _ _).mono ?_; rintro e w' ⟨rfl, rfl⟩)
          | (go_at_call 58; refine (checkOn_any _ _ _ _).mono ?_; rintro e w1 ⟨rfl, hb1⟩; simp only [World.size_alloc] at hb1; obtain ⟨c0, c1, c2, c3, c4, c5, c6, c7, c8⟩ := box9 hb1)
          | (go_at_call 55; refine (lettersR_any _ _ hle).mono ?_; rintro e w' ⟨rfl, rfl⟩))
        go_loopw [4] (fun v wr => ∃ y : Int, fy ≤ y ∧ y ≤ ty + 1 ∧ v = .int .i64 y ∧ yearsTo fy y mo k wk d ∧ Below (w.heap.size + 1) (w.alloc (.cells #[.int .i64 fy, .int .i64 ty, .int .i64 mo, .int .i64 k, .int .i64 wk, .int .i64 d, .int .i64 a, .int .i64 sv, .string le] 53)) wr) (fun v _ => (ty + 1 - intOf v).toNat)
        case atStart => exact ⟨fy, by omega, by omega, rfl, hYT.out, hb1⟩
        case round =>
          obtain ⟨y, y1, y2, rfl, hyt, hbr⟩ := hrel
          have HY := Lib.hid hyt
          clear hyt hb1 hYT c0 c1 c2 c3 c4 c5 c6 c7 c8
          obtain ⟨c0, c1, c2, c3, c4, c5, c6, c7, c8⟩ := box9 hbr
          by_cases hy : y ≤ ty
          · by_cases hf : findE y mo k wk d = 0
            · have hfb : (findE y mo k wk d != 0) = false := by simpa using hf
              have HN := Lib.hid (yearsTo_step HY.out hf)
              clear hf
              go_wp2_with (go_at_call 59; refine (findOf_any _ _ _ _ _ _).mono ?_; rintro e w4 ⟨rfl, hb4⟩; have hb5 := hbr.trans (hb4.mono (box_le hbr)); clear hb4 hbr)
              go_roundw
              case rel => exact ⟨y + 1, by omega, by omega, rfl, HN.out, hb5⟩
              case measure => simp [intOf]; omega
            · have hfb : (findE y mo k wk d != 0) = true := by simpa using hf
              have HN := Lib.hid (RY.out y y1 hy hf)
              clear hf
              go_wp2_with (go_at_call 59; refine (findOf_any _ _ _ _ _ _).mono ?_; rintro e w4 ⟨rfl, hb4⟩; have hb5 := hbr.trans (hb4.mono (box_le hbr)); clear hb4 hbr)
              go_ret
              exact ⟨ret_int HN.out.symm, box_below hb5⟩
          · have HN := Lib.hid (RO.out (yearsTo_end HY.out (by omega)))
            go_wp2
            go_ret
            exact ⟨ret_int HN.out.symm, box_below hbr⟩
      · have HE := Lib.hid (ruleE_let (mo := mo) hB ho hL)
        by_cases l1 : le.size ≤ 12
        · have l2 : allLet le = false := by simpa [letOk, l1] using hL
          clear hB ho hL
          go_enter Tryz.func19, Tryz.ntmps19
          go_wp2_with (first
            | (go_at_call 56; refine (isYearR_any _ _).mono ?_; rintro e w' ⟨rfl, rfl⟩)
            | (go_at_call 57; refine (isMonthR_any _ _).mono ?_; rintro e w' ⟨rfl, rfl⟩)
            | (go_at_call 16; refine (within_any _ _ _ _).mono ?_; rintro e w' ⟨rfl, rfl⟩)
            | (go_at_call 58; refine (checkOn_any _ _ _ _).mono ?_; rintro e w1 ⟨rfl, hb1⟩; simp only [World.size_alloc] at hb1; obtain ⟨c0, c1, c2, c3, c4, c5, c6, c7, c8⟩ := box9 hb1)
            | (go_at_call 55; refine (lettersR_any _ _ hle).mono ?_; rintro e w' ⟨rfl, rfl⟩))
          go_ret
          exact ⟨ret_int HE.out.symm, box_below hb1⟩
        · clear hB ho hL
          go_enter Tryz.func19, Tryz.ntmps19
          go_wp2_with (first
            | (go_at_call 56; refine (isYearR_any _ _).mono ?_; rintro e w' ⟨rfl, rfl⟩)
            | (go_at_call 57; refine (isMonthR_any _ _).mono ?_; rintro e w' ⟨rfl, rfl⟩)
            | (go_at_call 16; refine (within_any _ _ _ _).mono ?_; rintro e w' ⟨rfl, rfl⟩)
            | (go_at_call 58; refine (checkOn_any _ _ _ _).mono ?_; rintro e w1 ⟨rfl, hb1⟩; simp only [World.size_alloc] at hb1; obtain ⟨c0, c1, c2, c3, c4, c5, c6, c7, c8⟩ := box9 hb1))
          go_ret
          exact ⟨ret_int HE.out.symm, box_below hb1⟩
    · have hob : (onE k wk d != 0) = true := by simpa using ho
      have HE := Lib.hid (ruleE_on (le := le) (mo := mo) hB ho)
      clear hB ho
      go_enter Tryz.func19, Tryz.ntmps19
      go_wp2_with (first
        | (go_at_call 56; refine (isYearR_any _ _).mono ?_; rintro e w' ⟨rfl, rfl⟩)
        | (go_at_call 57; refine (isMonthR_any _ _).mono ?_; rintro e w' ⟨rfl, rfl⟩)
        | (go_at_call 16; refine (within_any _ _ _ _).mono ?_; rintro e w' ⟨rfl, rfl⟩)
        | (go_at_call 58; refine (checkOn_any _ _ _ _).mono ?_; rintro e w1 ⟨rfl, hb1⟩; simp only [World.size_alloc] at hb1; obtain ⟨c0, c1, c2, c3, c4, c5, c6, c7, c8⟩ := box9 hb1))
      go_ret
      exact ⟨ret_int HE.out.symm, box_below hb1⟩
  · have HE := Lib.hid (ruleE_basic (k := k) (wk := wk) (d := d) (le := le) hB)
    have hB' : ¬ (1970 ≤ fy ∧ fy ≤ ty ∧ ty ≤ 2029 ∧ (1 ≤ mo ∧ mo ≤ 12) ∧ (0 ≤ a ∧ a ≤ 86400) ∧ (0 ≤ sv ∧ sv ≤ 7200)) := fun x => by
      rw [(ruleBasic_iff _ _ _ _ _).2 x] at hB; cases hB
    clear hB
    rcases hcases (isYear fy) with q0 | q0
    rotate_left
    · clear hB'
      go_enter Tryz.func19, Tryz.ntmps19
      go_wp2_with (first
        | (go_at_call 56; refine (isYearR_any _ _).mono ?_; rintro e w' ⟨rfl, rfl⟩)
        | (go_at_call 57; refine (isMonthR_any _ _).mono ?_; rintro e w' ⟨rfl, rfl⟩)
        | (go_at_call 16; refine (within_any _ _ _ _).mono ?_; rintro e w' ⟨rfl, rfl⟩))
      go_ret
      exact ⟨ret_int HE.out.symm, (Below.refl _ _).alloc (Nat.le_refl _) _⟩
    · have r0 := (isYear_iff fy).1 q0
      rcases hcases (isYear ty) with q1 | q1
      rotate_left
      · clear hB'
        go_enter Tryz.func19, Tryz.ntmps19
        go_wp2_with (first
          | (go_at_call 56; refine (isYearR_any _ _).mono ?_; rintro e w' ⟨rfl, rfl⟩)
          | (go_at_call 57; refine (isMonthR_any _ _).mono ?_; rintro e w' ⟨rfl, rfl⟩)
          | (go_at_call 16; refine (within_any _ _ _ _).mono ?_; rintro e w' ⟨rfl, rfl⟩))
        go_ret
        exact ⟨ret_int HE.out.symm, (Below.refl _ _).alloc (Nat.le_refl _) _⟩
      · have r1 := (isYear_iff ty).1 q1
        by_cases q2 : ty < fy
        · clear hB'
          go_enter Tryz.func19, Tryz.ntmps19
          go_wp2_with (first
            | (go_at_call 56; refine (isYearR_any _ _).mono ?_; rintro e w' ⟨rfl, rfl⟩)
            | (go_at_call 57; refine (isMonthR_any _ _).mono ?_; rintro e w' ⟨rfl, rfl⟩)
            | (go_at_call 16; refine (within_any _ _ _ _).mono ?_; rintro e w' ⟨rfl, rfl⟩))
          go_ret
          exact ⟨ret_int HE.out.symm, (Below.refl _ _).alloc (Nat.le_refl _) _⟩
        · skip
          rcases hcases (isMonth mo) with q3 | q3
          rotate_left
          · clear hB'
            go_enter Tryz.func19, Tryz.ntmps19
            go_wp2_with (first
              | (go_at_call 56; refine (isYearR_any _ _).mono ?_; rintro e w' ⟨rfl, rfl⟩)
              | (go_at_call 57; refine (isMonthR_any _ _).mono ?_; rintro e w' ⟨rfl, rfl⟩)
              | (go_at_call 16; refine (within_any _ _ _ _).mono ?_; rintro e w' ⟨rfl, rfl⟩))
            go_ret
            exact ⟨ret_int HE.out.symm, (Below.refl _ _).alloc (Nat.le_refl _) _⟩
          · have r3 := (isMonth_iff mo).1 q3
            rcases hcases (withinB a 0 86400) with q4 | q4
            rotate_left
            · clear hB'
              go_enter Tryz.func19, Tryz.ntmps19
              go_wp2_with (first
                | (go_at_call 56; refine (isYearR_any _ _).mono ?_; rintro e w' ⟨rfl, rfl⟩)
                | (go_at_call 57; refine (isMonthR_any _ _).mono ?_; rintro e w' ⟨rfl, rfl⟩)
                | (go_at_call 16; refine (within_any _ _ _ _).mono ?_; rintro e w' ⟨rfl, rfl⟩))
              go_ret
              exact ⟨ret_int HE.out.symm, (Below.refl _ _).alloc (Nat.le_refl _) _⟩
            · have r4 := (withinB_iff _ _ _).1 q4
              have q9 : withinB sv 0 7200 = false := (withinB_no _ _ _).2 (by omega)
              clear hB'
              go_enter Tryz.func19, Tryz.ntmps19
              go_wp2_with (first
                | (go_at_call 56; refine (isYearR_any _ _).mono ?_; rintro e w' ⟨rfl, rfl⟩)
                | (go_at_call 57; refine (isMonthR_any _ _).mono ?_; rintro e w' ⟨rfl, rfl⟩)
                | (go_at_call 16; refine (within_any _ _ _ _).mono ?_; rintro e w' ⟨rfl, rfl⟩))
              go_ret
              exact ⟨ret_int HE.out.symm, (Below.refl _ _).alloc (Nat.le_refl _) _⟩
end Go.Proofs.YthhjgndaiimgjaaGreatDoor
end
/-! The walks of rules.Begin, At and the reference's begins, AtOf. -/
section
set_option linter.unusedVariables false
set_option linter.unusedSimpArgs false
namespace Gno
def stdOk (s : Int) : Bool := decide (-50400 ≤ s ∧ s ≤ 50400)
theorem stdOk_iff (s : Int) : stdOk s = true ↔ -50400 ≤ s ∧ s ≤ 50400 := by unfold stdOk; rw [decide_eq_true_iff]
/-- when a right rule begins in a year. -/
def beginN (y mo k wk d a std : Int) : Int := num y mo (findN y mo k wk d) * 86400 + a - std
noncomputable def atE (fy ty mo k wk d a sv : Int) (le : ByteArray) (y std : Int) : Int :=
  if ruleE fy ty mo k wk d a sv le ≠ 0 then ruleE fy ty mo k wk d a sv le else if (fy ≤ y ∧ y ≤ ty) ∧ stdOk std = true then 0 else 3
noncomputable def atN (fy ty mo k wk d a sv : Int) (le : ByteArray) (y std : Int) : Int :=
  if ruleE fy ty mo k wk d a sv le ≠ 0 then 0 else if (fy ≤ y ∧ y ≤ ty) ∧ stdOk std = true then beginN y mo k wk d a std else 0
end Gno
namespace Go.Proofs.YthhjgndaiimgjaaGreatDoor
open Go.RowKit Gno
theorem isStd_any (std : Int) (w : World) :
    Calls Tryz.prog 60 #[.int .i64 std] w fun e w' => e = .returned (.bool (stdOk std)) ∧ w = w' := by
  go_enter Tryz.func60, Tryz.ntmps60
  go_wp2_with (go_at_call 16; refine (within_any _ _ _ _).mono ?_; rintro e w' ⟨rfl, rfl⟩)
  go_ret
  exact ⟨rfl, rfl⟩
def timeOk (t : Int) : Bool := withinB t 0 1893455999
end Go.Proofs.YthhjgndaiimgjaaGreatDoor
end
/-! Rules in memory. -/
section
set_option linter.unusedVariables false
set_option linter.unusedSimpArgs false
namespace Gno
structure Rl where
  fy : Int
  ty : Int
  mo : Int
  k : Int
  wk : Int
  d : Int
  a : Int
  sv : Int
  le : ByteArray
end Gno
namespace Go.Proofs.YthhjgndaiimgjaaGreatDoor
open Go.RowKit Gno

/-- the nine cells of a rule lie in block b from o on. -/
def RuleAt (w : World) (b o : Nat) (r : Rl) : Prop :=
  w.cell? ⟨b, o, none⟩ = some (.int .i64 r.fy) ∧ w.cell? ⟨b, o + 1, none⟩ = some (.int .i64 r.ty) ∧ w.cell? ⟨b, o + 2, none⟩ = some (.int .i64 r.mo) ∧
  w.cell? ⟨b, o + 3, none⟩ = some (.int .i64 r.k) ∧ w.cell? ⟨b, o + 4, none⟩ = some (.int .i64 r.wk) ∧ w.cell? ⟨b, o + 5, none⟩ = some (.int .i64 r.d) ∧
  w.cell? ⟨b, o + 6, none⟩ = some (.int .i64 r.a) ∧ w.cell? ⟨b, o + 7, none⟩ = some (.int .i64 r.sv) ∧ w.cell? ⟨b, o + 8, none⟩ = some (.string r.le)
theorem RuleAt.below {B : Nat} {w w' : World} {b o : Nat} {r : Rl} (h : RuleAt w b o r) (hb : Below B w w') (hB : b < B) : RuleAt w' b o r := by
  obtain ⟨h0, h1, h2, h3, h4, h5, h6, h7, h8⟩ := h
  exact ⟨(hb.cell hB).trans h0, (hb.cell hB).trans h1, (hb.cell hB).trans h2, (hb.cell hB).trans h3, (hb.cell hB).trans h4, (hb.cell hB).trans h5, (hb.cell hB).trans h6, (hb.cell hB).trans h7, (hb.cell hB).trans h8⟩
/-- a slice value of address A and length n reads as the rules rs, all below block B. -/
def RulesAt (w : World) (B : Nat) (A : Option Addr) (n : Nat) (rs : List Rl) : Prop :=
  rs.length = n ∧ n ≤ maxLen ∧ (0 < n → ∃ b o, A = some ⟨b, o, none⟩ ∧ b < B ∧ ∀ i r, rs[i]? = some r → RuleAt w b (o + i * 9) r ∧ r.le.size ≤ maxLen)
theorem RulesAt.below {B B' : Nat} {w w' : World} {A : Option Addr} {n : Nat} {rs : List Rl} (h : RulesAt w B A n rs) (hb : Below B' w w') (hB : B ≤ B') : RulesAt w' B A n rs :=
  ⟨h.1, h.2.1, fun hn => by
    obtain ⟨b, o, e, hbB, hc⟩ := h.2.2 hn
    exact ⟨b, o, e, hbB, fun i r hi => ⟨(hc i r hi).1.below hb (by omega), (hc i r hi).2⟩⟩⟩
theorem RulesAt.more {B B' : Nat} {w : World} {A : Option Addr} {n : Nat} {rs : List Rl} (h : RulesAt w B A n rs) (hB : B ≤ B') : RulesAt w B' A n rs :=
  ⟨h.1, h.2.1, fun hn => by
    obtain ⟨b, o, e, hbB, hc⟩ := h.2.2 hn
    exact ⟨b, o, e, by omega, hc⟩⟩
end Go.Proofs.YthhjgndaiimgjaaGreatDoor
end
/-! Which rule has begun last: the plain functions. No program in sight. -/
section
set_option linter.unusedVariables false
set_option linter.unusedSimpArgs false
namespace Gno

/-- of the years from lo to hi the last one at which g is not behind t; m is g there. -/
def IsTop (g : Int → Int) (lo hi t m : Int) : Prop := ∃ y, lo ≤ y ∧ y ≤ hi ∧ g y = m ∧ m ≤ t ∧ ∀ z, y < z → z ≤ hi → t < g z
open Classical in
noncomputable def topOf (g : Int → Int) (lo hi t : Int) : Option Int := if h : ∃ m, IsTop g lo hi t m then some h.choose else none
theorem IsTop.uniq {g : Int → Int} {lo hi t m m' : Int} (h : IsTop g lo hi t m) (h' : IsTop g lo hi t m') : m = m' := by
  obtain ⟨y, h1, h2, h3, h4, h5⟩ := h
  obtain ⟨z, k1, k2, k3, k4, k5⟩ := h'
  rcases Int.lt_trichotomy y z with q | q | q
  · have := h5 z q k2; omega
  · subst q; omega
  · have := k5 y q h2; omega
theorem topOf_some {g : Int → Int} {lo hi t m : Int} (h : IsTop g lo hi t m) : topOf g lo hi t = some m := by
  have hx : ∃ m, IsTop g lo hi t m := ⟨m, h⟩
  unfold topOf
  rw [dif_pos hx, hx.choose_spec.uniq h]
theorem topOf_none {g : Int → Int} {lo hi t : Int} (h : ∀ z, lo ≤ z → z ≤ hi → t < g z) : topOf g lo hi t = none := by
  unfold topOf
  rw [dif_neg]
  rintro ⟨m, y, h1, h2, h3, h4, _⟩
  have := h y h1 h2
  omega
/-- one year more. -/
theorem topOf_late {g : Int → Int} {lo hi t : Int} (h : t < g (hi + 1)) : topOf g lo (hi + 1) t = topOf g lo hi t := by
  by_cases hx : ∃ m, IsTop g lo hi t m
  · obtain ⟨m, hm⟩ := hx
    rw [topOf_some hm]
    obtain ⟨y, h1, h2, h3, h4, h5⟩ := hm
    refine topOf_some ⟨y, h1, by omega, h3, h4, fun z q1 q2 => ?_⟩
    rcases Int.lt_or_le hi z with q3 | q3
    · obtain rfl : z = hi + 1 := by omega
      exact h
    · exact h5 z q1 q3
  · have e1 : topOf g lo hi t = none := by unfold topOf; rw [dif_neg hx]
    rw [e1]
    unfold topOf
    rw [dif_neg]
    rintro ⟨m, y, h1, h2, h3, h4, h5⟩
    rcases Int.lt_or_le hi y with q | q
    · obtain rfl : y = hi + 1 := by omega
      omega
    · exact hx ⟨m, y, h1, q, h3, h4, fun z q1 q2 => h5 z q1 (by omega)⟩
theorem topOf_here {g : Int → Int} {lo hi t : Int} (hl : lo ≤ hi) (h : g hi ≤ t) : topOf g lo hi t = some (g hi) :=
  topOf_some ⟨hi, hl, Int.le_refl _, rfl, h, fun z q1 q2 => by omega⟩

/-- one rule more: k its number, o when it has begun last. -/
def lstep (k : Int) (s : Int × Int) (o : Option Int) : Int × Int :=
  match o with
  | none => s
  | some m => if s.1 < 0 ∨ s.2 ≤ m then (k, m) else s
theorem lstep_if (k m : Int) (s : Int × Int) : ((s.1 < 0 ∨ s.2 ≤ m) ∧ lstep k s (some m) = (k, m)) ∨ (¬ (s.1 < 0 ∨ s.2 ≤ m) ∧ lstep k s (some m) = s) := by
  by_cases c : s.1 < 0 ∨ s.2 ≤ m
  · exact .inl ⟨c, by simp only [lstep]; rw [if_pos c]⟩
  · exact .inr ⟨c, by simp only [lstep]; rw [if_neg c]⟩
/-- .. or does not. -/
theorem lstep_up_no (g : Int → Int) (lo hi t k : Int) (s c : Int × Int) (hc : c = lstep k s (topOf g lo hi t)) (hl : lo ≤ hi + 1) (hg : ∀ y, lo ≤ y → y ≤ hi → g y < g (hi + 1))
    (hu : ¬ (g (hi + 1) ≤ t ∧ (c.1 < 0 ∨ c.2 ≤ g (hi + 1)))) : lstep k s (topOf g lo (hi + 1) t) = c := by
  by_cases h : g (hi + 1) ≤ t
  · rw [topOf_here hl h]
    have hn : ¬ (c.1 < 0 ∨ c.2 ≤ g (hi + 1)) := fun q => hu ⟨h, q⟩
    by_cases hx : ∃ m, IsTop g lo hi t m
    · obtain ⟨m, hm⟩ := hx
      rw [topOf_some hm] at hc
      obtain ⟨y, h1, h2, h3, h4, h5⟩ := hm
      have hlt := hg y h1 h2
      rcases lstep_if k m s with ⟨q2, e2⟩ | ⟨q2, e2⟩
      · rw [e2] at hc
        rw [hc] at hn
        exact absurd (.inr (by simp only; omega)) hn
      · rw [e2] at hc
        rcases lstep_if k (g (hi + 1)) s with ⟨q, e⟩ | ⟨q, e⟩
        · rw [hc] at hn
          exact absurd q hn
        · rw [e, hc]
    · have e1 : topOf g lo hi t = none := by unfold topOf; rw [dif_neg hx]
      rw [e1] at hc
      simp only [lstep] at hc
      rcases lstep_if k (g (hi + 1)) s with ⟨q, e⟩ | ⟨q, e⟩
      · rw [hc] at hn
        exact absurd q hn
      · rw [e, hc]
  · rw [topOf_late (by omega), hc]

/-- when a rule begins in a year. -/
def Rl.g (r : Rl) (std : Int) (y : Int) : Int := beginN y r.mo r.k r.wk r.d r.a std
noncomputable def Rl.e (r : Rl) : Int := ruleE r.fy r.ty r.mo r.k r.wk r.d r.a r.sv r.le
noncomputable def Rl.top (r : Rl) (std t : Int) : Option Int := topOf (r.g std) r.fy r.ty t
/-- which rule has begun last, of the first i; and when. -/
noncomputable def latestTo (rs : List Rl) (std t : Int) : Nat → Int × Int
  | 0 => (-1, 0)
  | i + 1 => match rs[i]? with
    | some r => lstep i (latestTo rs std t i) (r.top std t)
    | none => latestTo rs std t i
noncomputable def latest (rs : List Rl) (std t : Int) : Int × Int := latestTo rs std t rs.length

end Gno
end
/-! The walk of rules.Latest. -/
section
set_option linter.unusedVariables false
set_option linter.unusedSimpArgs false
namespace Gno
end Gno
namespace Go.Proofs.YthhjgndaiimgjaaGreatDoor
open Go.RowKit Gno
end Go.Proofs.YthhjgndaiimgjaaGreatDoor
end
/-! The walk of the reference's last. -/
section
set_option linter.unusedVariables false
set_option linter.unusedSimpArgs false
namespace Gno
/-- how the reference says a state: which rule, when, is there one. -/
def RS (c : Int × Int) (rule when_ : Int) (is_ : Bool) : Prop := (is_ = true ∧ rule = c.1 ∧ when_ = c.2 ∧ 0 ≤ c.1) ∨ (is_ = false ∧ rule = 0 ∧ when_ = 0 ∧ c.1 < 0)
def lastB (c : Int × Int) : Bool := decide (0 ≤ c.1)
def lastR (c : Int × Int) : Int := if 0 ≤ c.1 then c.1 else 0
def lastW (c : Int × Int) : Int := if 0 ≤ c.1 then c.2 else 0
theorem RS.is {c : Int × Int} {rule when_ : Int} {is_ : Bool} (h : RS c rule when_ is_) : is_ = lastB c ∧ rule = lastR c ∧ when_ = lastW c := by
  unfold lastB lastR lastW
  rcases h with ⟨a, b, d, e⟩ | ⟨a, b, d, e⟩
  · rw [if_pos e, if_pos e]; exact ⟨by simp [a, e], b, d⟩
  · rw [if_neg (by omega), if_neg (by omega)]; exact ⟨by simp [a]; omega, b, d⟩
theorem topOf_empty {g : Int → Int} {lo hi t : Int} (h : hi < lo) : topOf g lo hi t = none := topOf_none fun z h1 h2 => by omega
/-- the state where the years ahead of y are gone through. -/
def UpTo (g : Int → Int) (lo t k : Int) (s : Int × Int) (y : Int) (c : Int × Int) : Prop := c = lstep k s (topOf g lo (y - 1) t)
theorem UpTo.start {g : Int → Int} {lo t k : Int} {s : Int × Int} : UpTo g lo t k s lo s := by
  unfold UpTo; rw [topOf_empty (by omega)]; rfl
theorem UpTo.no {g : Int → Int} {lo t k y : Int} {s c : Int × Int} (h : UpTo g lo t k s y c) (hl : lo ≤ y) (hg : ∀ z, lo ≤ z → z < y → g z < g y) (hu : ¬ (g y ≤ t ∧ (c.1 < 0 ∨ c.2 ≤ g y))) : UpTo g lo t k s (y + 1) c := by
  have e : y - 1 + 1 = y := by omega
  have := lstep_up_no g lo (y - 1) t k s c h (by omega) (fun z q1 q2 => by rw [e]; exact hg z q1 (by omega)) (by rw [e]; exact hu)
  rw [e] at this
  unfold UpTo
  rw [show y + 1 - 1 = y by omega, this]
end Gno
namespace Go.Proofs.YthhjgndaiimgjaaGreatDoor
open Go.RowKit Gno

end Go.Proofs.YthhjgndaiimgjaaGreatDoor
end
/-! The walks of rules.Last and of the reference's LastOf. -/
section
set_option linter.unusedVariables false
set_option linter.unusedSimpArgs false
namespace Gno
noncomputable def firstE : List Rl → Int
  | [] => 0
  | r :: rest => if r.e ≠ 0 then r.e else firstE rest
theorem firstE_zero : ∀ {rs : List Rl}, firstE rs = 0 → ∀ r ∈ rs, r.e = 0
  | [], _, r, hr => by cases hr
  | q :: rest, h, r, hr => by
    unfold firstE at h
    by_cases hq : q.e ≠ 0
    · rw [if_pos hq] at h; exact absurd h hq
    · rw [if_neg hq] at h
      rcases List.mem_cons.1 hr with rfl | hr
      · omega
      · exact firstE_zero h r hr
theorem firstE_all : ∀ {rs : List Rl}, (∀ r ∈ rs, r.e = 0) → firstE rs = 0
  | [], _ => rfl
  | q :: rest, h => by
    unfold firstE
    rw [if_neg (by have := h q (by simp); omega)]
    exact firstE_all fun r hr => h r (by simp [hr])
theorem firstE_drop {rs : List Rl} {i : Nat} {r : Rl} (hr : rs[i]? = some r) : (r.e ≠ 0 → firstE (rs.drop i) = r.e) ∧ (r.e = 0 → firstE (rs.drop i) = firstE (rs.drop (i + 1))) := by
  have hi : i < rs.length := (List.getElem?_eq_some_iff.1 hr).1
  have he : rs[i] = r := (List.getElem?_eq_some_iff.1 hr).2
  rw [List.drop_eq_getElem_cons hi, he]
  constructor
  · intro h; unfold firstE; rw [if_pos h]
  · intro h; rw [firstE, if_neg (by omega)]
def tOk (t : Int) : Bool := decide (0 ≤ t ∧ t ≤ 1893455999)
noncomputable def lastE (rs : List Rl) (std t : Int) : Int :=
  if 4 < rs.length then 2 else if firstE rs ≠ 0 then firstE rs else if (stdOk std && tOk t) = false then 3 else if lastB (latest rs std t) = true then 0 else 4
noncomputable def lastK (rs : List Rl) (std t : Int) : Int := if lastE rs std t = 0 then (latest rs std t).1 else 0
noncomputable def lastT (rs : List Rl) (std t : Int) : Int := if lastE rs std t = 0 then (latest rs std t).2 else 0
section
variable {rs : List Rl} {std t : Int}
end
end Gno
namespace Go.Proofs.YthhjgndaiimgjaaGreatDoor
open Go.RowKit Gno
end Go.Proofs.YthhjgndaiimgjaaGreatDoor
end
/-! A set of two rules, and what holds of it. -/
section
set_option linter.unusedVariables false
set_option linter.unusedSimpArgs false
namespace Gno
def sA : Rl := ⟨1980, 2029, 3, 2, 0, 0, 7200, 3600, ⟨#[68]⟩⟩
def sB : Rl := ⟨1980, 2029, 10, 2, 0, 0, 7200, 0, ⟨#[83]⟩⟩
def springs : List Rl := [sA, sB]
theorem last_fine {y m w : Int} (hy : isYM y m = true) (h1 : 0 ≤ w) (h2 : w ≤ 6) : findE y m 2 w 0 = 0 := by
  have hym : (1970 ≤ y ∧ y ≤ 2029) ∧ (1 ≤ m ∧ m ≤ 12) := by simpa [isYM, isYear, isMonth] using hy
  have l := last_is w 0 (pick1 y m) (size y m) h1 h2
  have ho : onE 2 w 0 = 0 := by unfold onE; simp; omega
  unfold findE
  rw [if_neg (by omega), if_neg (by rw [hy]; simp), if_neg]
  unfold findR
  omega
theorem spring_years (m : Int) (h1 : 1 ≤ m) (h2 : m ≤ 12) : yearsOk 1980 2029 m 2 0 0 := fun z h3 h4 => last_fine (by simp [isYM, isYear, isMonth]; omega) (by omega) (by omega)
theorem sA_ok : sA.e = 0 := ruleE_ok rfl rfl (by decide) (spring_years 3 (by omega) (by omega))
theorem sB_ok : sB.e = 0 := ruleE_ok rfl rfl (by decide) (spring_years 10 (by omega) (by omega))
theorem springs_ok : firstE springs = 0 := firstE_all fun r hr => by
  rcases List.mem_cons.1 hr with rfl | hr
  · exact sA_ok
  · rcases List.mem_cons.1 hr with rfl | hr
    · exact sB_ok
    · cases hr
end Gno
namespace Go.Proofs.YthhjgndaiimgjaaGreatDoor
open Go.RowKit Gno

theorem spring_any (w : World) :
    Calls Tryz.prog 70 #[] w fun e w' => e = .returned (.slice (some ⟨w.heap.size, 0, none⟩) 2 2) ∧
      (w.alloc (.cells #[.int .i64 1980, .int .i64 2029, .int .i64 3, .int .i64 2, .int .i64 0, .int .i64 0, .int .i64 7200, .int .i64 3600, .string ⟨#[68]⟩,
        .int .i64 1980, .int .i64 2029, .int .i64 10, .int .i64 2, .int .i64 0, .int .i64 0, .int .i64 7200, .int .i64 0, .string ⟨#[83]⟩] 53)) = w' := by
  go_enter Tryz.func70, Tryz.ntmps70
  go_wp2
  go_ret
  exact ⟨rfl, rfl⟩
end Go.Proofs.YthhjgndaiimgjaaGreatDoor
end
