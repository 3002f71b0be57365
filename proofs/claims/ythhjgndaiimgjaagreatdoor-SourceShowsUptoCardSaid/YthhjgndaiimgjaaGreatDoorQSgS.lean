/- The reference's split and said. -/
import Derived.Test.YthhjgndaiimgjaaGreatDoorMUSrcB0
import Derived.Test.YthhjgndaiimgjaaGreatDoorMUSrcB5
import Derived.Test.YthhjgndaiimgjaaGreatDoorMUSrcB2
set_option linter.unusedSimpArgs false
set_option linter.unusedVariables false
set_option linter.unusedVariables false
set_option linter.unusedSimpArgs false
set_option maxRecDepth 100000
namespace Gno
open Go Go.RowKit Go.Proofs.YthhjgndaiimgjaaGreatDoor
def bsStrs (l : List Bt) : List Value := strs (l.map Bs)
theorem bsStrs_snoc (l : List Bt) (a : Bt) : bsStrs (l ++ [a]) = bsStrs l ++ [.string (Bs a)] := by unfold bsStrs strs; simp
theorem piece_is (s : ByteArray) (f i : Nat) : s.extract f i = Bs ((s.data.toList.drop f).take (i - f)) := by
  have h : (s.extract f i).data.toList = (s.data.toList.drop f).take (i - f) := by rw [← Lib.toList_data, Lib.extract_toList]
  rw [← h, Bs_list]
theorem byte_get {s : ByteArray} {i : Nat} (h : i < s.size) : s.data.toList[i]? = some s[i] := by
  rw [List.getElem?_eq_getElem (by rw [Array.length_toList]; exact h)]; rfl
/-- where split stands. -/
def SplitAt (c : UInt8) (s : Bt) (i f : Nat) (L : List Bt) : Prop :=
  (i ≤ s.length → f ≤ i ∧ splitB c s = L ++ splitB c (s.drop f) ∧ c ∉ (s.drop f).take (i - f)) ∧ (s.length < i → splitB c s = L)
theorem splitAt_0 (c : UInt8) (s : Bt) : SplitAt c s 0 0 [] := ⟨fun _ => ⟨Nat.le_refl _, rfl, by simp⟩, fun h => absurd h (Nat.not_lt_zero _)⟩
theorem splitAt_end {c : UInt8} {s : Bt} {f : Nat} {L : List Bt} (h : SplitAt c s s.length f L) : splitB c s = L ++ [(s.drop f).take (s.length - f)] := by
  obtain ⟨h1, h2, h3⟩ := h.1 (Nat.le_refl _)
  have e : (s.drop f).take (s.length - f) = s.drop f := List.take_of_length_le (by rw [List.length_drop]; omega)
  rw [e] at h3 ⊢
  rw [h2, split_end h3]
theorem splitAt_hit {c : UInt8} {s : Bt} {i f : Nat} {L : List Bt} (h : SplitAt c s i f L) (hc : s[i]? = some c) : SplitAt c s (i + 1) (i + 1) (L ++ [(s.drop f).take (i - f)]) := by
  have hi := (List.getElem?_eq_some_iff.1 hc).1
  obtain ⟨h1, h2, h3⟩ := h.1 (by omega)
  refine ⟨fun _ => ⟨Nat.le_refl _, ?_, by simp⟩, fun h => absurd h (by omega)⟩
  rw [h2, split_step h1 h3 hc]
  simp
theorem splitAt_go {c x : UInt8} {s : Bt} {i f : Nat} {L : List Bt} (h : SplitAt c s i f L) (hx : s[i]? = some x) (hne : x ≠ c) : SplitAt c s (i + 1) f L := by
  have hi := (List.getElem?_eq_some_iff.1 hx).1
  obtain ⟨h1, h2, h3⟩ := h.1 (by omega)
  exact ⟨fun _ => ⟨by omega, h2, split_more h1 h3 hx hne⟩, fun h => absurd h (by omega)⟩
end Gno
namespace Go.Proofs.YthhjgndaiimgjaaGreatDoor
open Go.RowKit Gno
set_option maxHeartbeats 4000000 in
theorem splitR_any (s : ByteArray) (c : UInt8) (w : World) (hs : s.size ≤ 1000000) :
    Calls Tryz.prog 32 #[.string s, .int .u8 c.toNat] w fun e w' => ∃ v, e = .returned v ∧ w'.ownsRow w.heap.size 9 1 v (splitB c s.data.toList).length (bsStrs (splitB c s.data.toList)) ∧ Below w.heap.size w w' := by
  have hlen : s.data.toList.length = s.size := Array.length_toList
  obtain ⟨R, hR⟩ : ∃ R, R = splitB c s.data.toList := ⟨_, rfl⟩
  have HR := Lib.hid hR
  rw [← hR]
  clear hR
  go_enter Tryz.func32, Tryz.ntmps32
  go_wp2
  go_loopw [5, 6, 7] (fun b5 b6 b7 wr => ∃ (i f : Nat) (L : List Bt), i ≤ s.size + 1 ∧ f ≤ i ∧ L.length ≤ i ∧ b6 = .int .i64 f ∧ b7 = .int .i64 i ∧ Hid (SplitAt c s.data.toList i f L) ∧ Hid (wr.ownsRow w.heap.size 9 1 b5 L.length (bsStrs L)) ∧ Hid (Below w.heap.size w wr)) (fun _ _ b7 _ => s.size + 1 - (intOf b7).toNat)
  case atStart => exact ⟨0, 0, [], by omega, Nat.le_refl _, Nat.zero_le _, rfl, rfl, Lib.hid (splitAt_0 _ _), Lib.hid (World.ownsRow_nil _ _ _ _), Lib.hid (Below.refl _ _)⟩
  case round =>
    obtain ⟨i, f, L, hi, hfi, hLi, rfl, rfl, hS, hO, hb⟩ := hrel
    have hws := hb.out.size
    by_cases hlt : i ≤ s.size
    · by_cases he : i = s.size
      · subst he
        have HX : Hid (SplitAt c s.data.toList (s.size + 1) (s.size + 1) (L ++ [(s.data.toList.drop f).take (s.size - f)])) := Lib.hid ⟨fun h => absurd h (by omega), fun _ => by have := splitAt_end (by rw [hlen]; exact hS.out); rwa [hlen] at this⟩
        have HP := Lib.hid (piece_is s f s.size)
        have he2 : (s.size == s.size) = true := by simp
        have he3 : ((s.size : Int) == (s.size : Int)) = true := by simp
        clear hS
        go_wp2_with (at_builtin; go_must (refine wpList_app hb.out hws _ 9 rfl _ _ 63 rfl Tryz.underlying63 _ 1 16 infoStr rfl (by decide) _ L.length _ rfl hO.out 1 rfl rfl (by simp [Value.oneCell']) (by unfold maxLen; omega) (by omega) ?_); intro v' w8 hown8 hb8 _)
        have HO' : Hid (w8.ownsRow w.heap.size 9 1 v' (L ++ [(s.data.toList.drop f).take (s.size - f)]).length (bsStrs (L ++ [(s.data.toList.drop f).take (s.size - f)]))) := Lib.hid (by rw [bsStrs_snoc, List.length_append, ← HP.out]; exact hown8)
        go_roundw
        case rel => exact ⟨s.size + 1, s.size + 1, _, by omega, Nat.le_refl _, by simp <;> omega, by go_num, by go_num, HX, HO', Lib.hid hb8⟩
        case measure => simp [intOf] <;> omega
      · have hlt2 : i < s.size := by omega
        have hg := byte_get hlt2
        by_cases hc : s[i] = c
        · have HX := Lib.hid (splitAt_hit hS.out (by rw [hg, hc]))
          have HP := Lib.hid (piece_is s f i)
          have hcc : ((s[i].toNat : Int) == (c.toNat : Int)) = true := by rw [hc]; simp
          have hcn : (s[i].toNat == c.toNat) = true := by rw [hc]; simp
          have he3 : ((i : Int) == (s.size : Int)) = false := by rw [beq_eq_false_iff_ne]; omega
          have he2 : (i == s.size) = false := by simp [he]
          clear hS hg
          go_wp2_with (at_builtin; go_must (refine wpList_app hb.out hws _ 9 rfl _ _ 63 rfl Tryz.underlying63 _ 1 16 infoStr rfl (by decide) _ L.length _ rfl hO.out 1 rfl rfl (by simp [Value.oneCell']) (by unfold maxLen; omega) (by omega) ?_); intro v' w8 hown8 hb8 _)
          have HO' : Hid (w8.ownsRow w.heap.size 9 1 v' (L ++ [(s.data.toList.drop f).take (i - f)]).length (bsStrs (L ++ [(s.data.toList.drop f).take (i - f)]))) := Lib.hid (by rw [bsStrs_snoc, List.length_append, ← HP.out]; exact hown8)
          go_roundw
          case rel => exact ⟨i + 1, i + 1, _, by omega, Nat.le_refl _, by simp <;> omega, by go_num, by go_num, HX, HO', Lib.hid hb8⟩
          case measure => simp [intOf] <;> omega
        · have HX := Lib.hid (splitAt_go hS.out hg hc)
          have hne : s[i].toNat ≠ c.toNat := fun e => hc (UInt8.toNat_inj.1 e)
          have hcc : ((s[i].toNat : Int) == (c.toNat : Int)) = false := by rw [beq_eq_false_iff_ne]; omega
          have hcn : (s[i].toNat == c.toNat) = false := by simp [hne]
          have he3 : ((i : Int) == (s.size : Int)) = false := by rw [beq_eq_false_iff_ne]; omega
          have he2 : (i == s.size) = false := by simp [he]
          clear hS hg
          go_wp2_with fail
          go_roundw
          case rel => exact ⟨i + 1, f, L, by omega, by omega, by omega, rfl, by go_num, HX, hO, hb⟩
          case measure => simp [intOf] <;> omega
    · have HF := Lib.hid (HR.out.trans (hS.out.2 (by rw [hlen]; omega)))
      go_wp2_with fail
      go_ret
      exact ⟨_, rfl, by rw [HF.out]; exact hO.out, hb.out⟩
/-- where said stands. -/
theorem sdL_snoc (a : Int) : ∀ (l : Bt) (x : UInt8), sdL a (l ++ [x]) = if x = 45 then sdL a l else 10 * sdL a l + ((x - 48).toNat : Int) := by
  intro l
  induction l generalizing a with
  | nil => intro x; show (if x = 45 then a else 10 * a + ((x - 48).toNat : Int)) = _; rfl
  | cons y t ih =>
    intro x
    show (if y = 45 then sdL a (t ++ [x]) else sdL (10 * a + ((y - 48).toNat : Int)) (t ++ [x])) = _
    by_cases hy : y = 45
    · rw [if_pos hy, ih]
      show _ = if x = 45 then (if y = 45 then sdL a t else _) else 10 * (if y = 45 then sdL a t else _) + _
      rw [if_pos hy]
    · rw [if_neg hy, ih]
      show _ = if x = 45 then (if y = 45 then _ else sdL (10 * a + ((y - 48).toNat : Int)) t) else 10 * (if y = 45 then _ else sdL (10 * a + ((y - 48).toNat : Int)) t) + _
      rw [if_neg hy]
theorem sdL_bound : ∀ (l : Bt) (a : Int), 0 ≤ a → 0 ≤ sdL a l ∧ sdL a l + 29 ≤ (a + 29) * (10 ^ l.length : Nat)
  | [], a, ha => by simp [sdL, ha]
  | x :: t, a, ha => by
    have hx : (x - 48).toNat < 256 := (x - 48).toNat_lt
    have h1 : 1 ≤ 10 ^ t.length := Nat.one_le_pow _ _ (by decide)
    have hp : ((10 ^ (x :: t).length : Nat) : Int) = 10 * (10 ^ t.length : Nat) := by rw [List.length_cons, Nat.pow_succ]; push_cast; omega
    rw [hp]
    show 0 ≤ (if x = 45 then sdL a t else sdL (10 * a + ((x - 48).toNat : Int)) t) ∧ (if x = 45 then sdL a t else sdL (10 * a + ((x - 48).toNat : Int)) t) + 29 ≤ _
    obtain ⟨p, hpp⟩ : ∃ p : Int, p = ((10 ^ t.length : Nat) : Int) := ⟨_, rfl⟩
    have hp1 : 1 ≤ p := by omega
    split
    · obtain ⟨q1, q2⟩ := sdL_bound t a ha
      rw [← hpp] at q2 ⊢
      refine ⟨q1, Int.le_trans q2 ?_⟩
      have : (a + 29) * p ≤ (a + 29) * (10 * p) := Int.mul_le_mul_of_nonneg_left (by omega) (by omega)
      exact this
    · obtain ⟨q1, q2⟩ := sdL_bound t (10 * a + ((x - 48).toNat : Int)) (by omega)
      rw [← hpp] at q2 ⊢
      refine ⟨q1, Int.le_trans q2 ?_⟩
      have h3 : (10 * a + ((x - 48).toNat : Int) + 29) * p ≤ (10 * (a + 29)) * p := Int.mul_le_mul_of_nonneg_right (by omega) (by omega)
      have h4 : (a + 29) * (10 * p) = (10 * (a + 29)) * p := by rw [← Int.mul_assoc, Int.mul_comm (a + 29) 10]
      rw [h4]; exact h3
set_option maxHeartbeats 4000000 in
theorem said_any (s : ByteArray) (w : World) (hs : s.size ≤ 9223372036854775807) :
    Calls Tryz.prog 33 #[.string s] w fun e w' => e = .returned (.int .i64 (sdI s.data.toList)) ∧ w = w' := by
  have hlen : s.data.toList.length = s.size := Array.length_toList
  have C := Lib.hid (fun w => withinO_any (s.size : Int) 1 12 w)
  obtain ⟨R, hR⟩ : ∃ R, R = sdI s.data.toList := ⟨_, rfl⟩
  rw [← hR]
  unfold sdI at hR
  rw [hlen] at hR
  by_cases h1 : 1 ≤ s.size ∧ s.size ≤ 12
  · rw [if_neg (by omega)] at hR
    rw [show decide ((1 : Int) ≤ (s.size : Int) ∧ (s.size : Int) ≤ 12) = true by simp; omega] at C
    have HR := Lib.hid hR
    clear hR
    obtain ⟨h2, h3⟩ := h1
    go_enter Tryz.func33, Tryz.ntmps33
    go_wp2_with (go_at_call 16; (with_reducible refine (C.out _).mono ?_); rintro e w1 ⟨rfl, rfl⟩)
    go_loopw [3, 4] (fun b3 b4 wr => ∃ i : Nat, i ≤ s.size ∧ b4 = .int .i64 i ∧ b3 = .int .i64 (sdL 0 (s.data.toList.take i)) ∧ w = wr) (fun _ b4 _ => s.size - (intOf b4).toNat)
    case atStart => exact ⟨0, Nat.zero_le _, rfl, rfl, rfl⟩
    case round =>
      obtain ⟨i, hi, rfl, rfl, rfl⟩ := hrel
      by_cases hlt : i < s.size
      · have hg := byte_get hlt
        have hsn : s.data.toList.take (i + 1) = s.data.toList.take i ++ [s[i]] := by rw [List.take_add_one, hg]; rfl
        have HS := Lib.hid (sdL_snoc 0 (s.data.toList.take i) s[i])
        rw [← hsn] at HS
        obtain ⟨hb0, hb1⟩ := sdL_bound (s.data.toList.take i) 0 (Int.le_refl _)
        have hle : (s.data.toList.take i).length ≤ 11 := by rw [List.length_take]; omega
        have hpw : (10 ^ (s.data.toList.take i).length : Nat) ≤ 10 ^ 11 := Nat.pow_le_pow_right (by decide) hle
        obtain ⟨n, hn⟩ : ∃ n, n = sdL 0 (s.data.toList.take i) := ⟨_, rfl⟩
        rw [← hn] at HS hb0 hb1 ⊢
        have hn2 : n ≤ 2900000000000 := by omega
        clear hb1 hpw hle hsn hg hn
        by_cases hd : s[i] = 45
        · have HX : Hid (sdL 0 (s.data.toList.take (i + 1)) = n) := Lib.hid (by rw [HS.out, if_pos hd])
          have hdn : s[i].toNat = 45 := by rw [hd]; rfl
          have hd1 : ((s[i].toNat : Int) != 45) = false := by rw [hdn]; rfl
          clear HS
          go_wp2_with fail
          go_roundw
          case rel => exact ⟨i + 1, by omega, by go_num, by rw [HX.out], by first | rfl | trivial⟩
          case measure => simp [intOf] <;> omega
        · have HX : Hid (sdL 0 (s.data.toList.take (i + 1)) = 10 * n + ((s[i] - 48).toNat : Int)) := Lib.hid (by rw [HS.out, if_neg hd])
          have hdn : s[i].toNat ≠ 45 := fun e => hd (UInt8.toNat_inj.1 e)
          have hd1 : ((s[i].toNat : Int) != 45) = true := by simp; omega
          have hsb : ((s[i] - 48).toNat : Int) = ((s[i].toNat : Int) - 48) % 256 := by rw [UInt8.toNat_sub]; simp; omega
          have hbt : s[i].toNat < 256 := s[i].toNat_lt
          clear HS
          go_wp2_with fail
          go_roundw
          case rel => exact ⟨i + 1, by omega, by go_num, by rw [HX.out, hsb], by first | rfl | trivial⟩
          case measure => simp [intOf] <;> omega
      · have hie : i = s.size := by omega
        subst hie
        have hfull : s.data.toList.take s.size = s.data.toList := List.take_of_length_le (by omega)
        rw [hfull]
        have h0 := byte_get (s := s) (i := 0) (by omega)
        have hhd : s.data.toList.head? = some s[0] := by rw [List.head?_eq_getElem?]; exact h0
        rw [hhd] at HR
        obtain ⟨hb0, hb1⟩ := sdL_bound s.data.toList 0 (Int.le_refl _)
        rw [hlen] at hb1
        have hpw : (10 ^ s.size : Nat) ≤ 10 ^ 12 := Nat.pow_le_pow_right (by decide) h3
        obtain ⟨n, hn⟩ : ∃ n, n = sdL 0 s.data.toList := ⟨_, rfl⟩
        rw [← hn] at HR hb0 hb1 ⊢
        have hn2 : n ≤ 29000000000000 := by omega
        have h00 : 0 < s.size := by omega
        clear hb1 hpw hn h0 hhd hfull
        by_cases hd : s[0] = 45
        · have HX : Hid (R = -n) := Lib.hid (by rw [HR.out, if_pos (by rw [hd])])
          have hdn : s[0].toNat = 45 := by rw [hd]; rfl
          have hd1 : ((s[0].toNat : Int) == 45) = true := by rw [hdn]; rfl
          clear HR
          go_wp2_with fail
          go_ret
          exact ⟨by rw [HX.out]; rfl, rfl⟩
        · have HX : Hid (R = n) := Lib.hid (by rw [HR.out, if_neg (fun e => hd (Option.some.inj e))])
          have hdn : s[0].toNat ≠ 45 := fun e => hd (UInt8.toNat_inj.1 e)
          have hd1 : ((s[0].toNat : Int) == 45) = false := by rw [beq_eq_false_iff_ne]; omega
          clear HR
          go_wp2_with fail
          go_ret
          exact ⟨by rw [HX.out]; rfl, rfl⟩
  · rw [if_pos (by omega)] at hR
    rw [show decide ((1 : Int) ≤ (s.size : Int) ∧ (s.size : Int) ≤ 12) = false by simp; omega] at C
    rw [hR]
    clear hR
    go_enter Tryz.func33, Tryz.ntmps33
    go_wp2_with (go_at_call 16; (with_reducible refine (C.out _).mono ?_); rintro e w1 ⟨rfl, rfl⟩)
    go_ret
    exact ⟨rfl, rfl⟩
end Go.Proofs.YthhjgndaiimgjaaGreatDoor
