/- Parts of a proof, laid together. -/
import Derived.Deep.RegionHeld3
import Derived.Deep.CutRange
import Derived.Test.YthhjgndaiimgjaaGreatDoorMUSrcB10
import Derived.Test.YthhjgndaiimgjaaGreatDoorMUSrcB20
import Derived.Test.YthhjgndaiimgjaaGreatDoorMUSrcB8
set_option linter.unusedSimpArgs false
set_option linter.unusedVariables false
/-! The pen's lines. -/
section
set_option linter.unusedVariables false
set_option linter.unusedSimpArgs false
set_option maxRecDepth 100000
namespace Gno
open Go Go.RowKit Go.Proofs.YthhjgndaiimgjaaGreatDoor
/-- a word that is handed to a line: a number, or a text. -/
inductive Wd where
  | n (i : Int)
  | s (b : ByteArray)
def wdVal : Wd → Value
  | .n i => .iface 3 (.int .i64 i)
  | .s b => .iface 9 (.string b)
def wdB : Wd → Bt
  | .n i => Lib.itoa i
  | .s b => b.data.toList
def wdOk : Wd → Prop
  | .n i => -1000000000000000000 < i ∧ i < 1000000000000000000
  | .s b => b.size ≤ 50
theorem wdB_len {x : Wd} (h : wdOk x) : (wdB x).length ≤ 50 := by
  cases x with
  | n i =>
    have := itoa_size h.1 h.2
    rw [B_size] at this
    exact Nat.le_trans this (by decide)
  | s b => exact Nat.le_trans (Nat.le_of_eq Array.length_toList) h
theorem joinW_snoc : ∀ (l : List Bt) (x : Bt), l ≠ [] → joinW (l ++ [x]) = joinW l ++ 32 :: x
  | [], x, h => absurd rfl h
  | [a], x, _ => rfl
  | a :: b :: t, x, _ => by
    show a ++ 32 :: joinW (b :: t ++ [x]) = (a ++ 32 :: joinW (b :: t)) ++ 32 :: x
    rw [joinW_snoc (b :: t) x (by simp)]
    simp
/-- the words so far. -/
def jn (ws : List Wd) (i : Nat) : Bt := joinW ((ws.take i).map wdB)
theorem jn_zero (ws : List Wd) : jn ws 0 = [] := rfl
theorem jn_one {ws : List Wd} {x : Wd} (h : ws[0]? = some x) : jn ws 1 = wdB x := by
  unfold jn
  rw [List.take_add_one, h]
  rfl
theorem jn_next {ws : List Wd} {i : Nat} {x : Wd} (h : ws[i]? = some x) (h0 : 0 < i) : jn ws (i + 1) = jn ws i ++ 32 :: wdB x := by
  unfold jn
  rw [map_take' wdB h]
  refine joinW_snoc _ _ ?_
  have := (List.getElem?_eq_some_iff.1 h).1
  intro e
  have := congrArg List.length e
  rw [List.length_map, List.length_take, List.length_nil] at this
  omega
theorem jn_len {ws : List Wd} (h : ∀ x ∈ ws, wdOk x) : ∀ i, (jn ws i).length ≤ 51 * i
  | 0 => by simp [jn_zero]
  | i + 1 => by
    have ih := jn_len h i
    cases hx : ws[i]? with
    | none =>
      have : jn ws (i + 1) = jn ws i := by unfold jn; rw [List.take_add_one, hx]; simp
      rw [this]; omega
    | some x =>
      have hl := wdB_len (h x (List.mem_of_getElem? hx))
      rcases Nat.eq_zero_or_pos i with rfl | h0
      · rw [jn_one hx]; omega
      · rw [jn_next hx h0]; simp; omega
theorem jn_all (ws : List Wd) : jn ws ws.length ++ [10] = lineW (ws.map wdB) := by unfold jn lineW; rw [List.take_length]
end Gno
namespace Go.Proofs.YthhjgndaiimgjaaGreatDoor
open Go.RowKit Gno
theorem strAt {B b : Nat} {L : Bt} {s : ByteArray} {w1 W : World} (hp : PenIs B b L w1) (hb : Below w1.heap.size w1 W) (hl : L.length + s.size ≤ 1000000000000) (hB : B ≤ w1.heap.size) :
    Calls Tryz.prog 53 #[.pointer (some ⟨b, 0, none⟩), .string s] W fun e w' => e = .returned (.tuple #[.int .i64 s.size, .nilIface]) ∧ PenUsed B b (L ++ s.data.toList) w' ∧ PG B b w1 w' :=
  (penStr_any B b L s W (hp.kept hb) hl (Nat.le_trans hB hb.size)).mono fun e w' q => ⟨q.1, q.2.1, (PG.of_below (PG.refl _ _ _) hB hb).trans q.2.2⟩
theorem blankAt {B b : Nat} {L : Bt} {w1 : World} (hp : PenIs B b L w1) (hl : L.length ≤ 1000000000000) (hB : B ≤ w1.heap.size) :
    Calls Tryz.prog 52 #[.pointer (some ⟨b, 0, none⟩), .int .u8 32] w1 fun e w' => e = .returned .nilIface ∧ PenUsed B b (L ++ [32]) w' ∧ PG B b w1 w' := penByte_any B b L 32 w1 hp hl hB
theorem endAt {B b : Nat} {L : Bt} {w1 : World} (hp : PenIs B b L w1) (hl : L.length ≤ 1000000000000) (hB : B ≤ w1.heap.size) :
    Calls Tryz.prog 52 #[.pointer (some ⟨b, 0, none⟩), .int .u8 10] w1 fun e w' => e = .returned .nilIface ∧ PenUsed B b (L ++ [10]) w' ∧ PG B b w1 w' := penByte_any B b L 10 w1 hp hl hB
theorem as_int (i : Int) (w : World) : (Instr.typeAssert (.iface 3 (.int .i64 i)) 20 3 true).run Tryz.prog w = .ok (.tuple #[.int .i64 i, .bool true]) w := by kernel_rfl
theorem as_int_not (s : ByteArray) (w : World) : (Instr.typeAssert (.iface 9 (.string s)) 20 3 true).run Tryz.prog w = .ok (.tuple #[.int .i64 0, .bool false]) w := by kernel_rfl
theorem as_str (s : ByteArray) (w : World) : (Instr.typeAssert (.iface 9 (.string s)) 20 9 true).run Tryz.prog w = .ok (.tuple #[.string s, .bool true]) w := by kernel_rfl
set_option maxHeartbeats 4000000 in
theorem line_any (B b k cap : Nat) (l : Bt) (ws : List Wd) (w : World) (h : PenIs B b l w) (hm : SMet w B) (hB : B ≤ w.heap.size) (hk : w.heap[k]? = some (.cells (ws.map wdVal).toArray 20)) (hl : l.length ≤ 1000000000) (hw : ws.length ≤ 1000) (hs : ∀ x ∈ ws, wdOk x) :
    Calls Tryz.prog 13 #[.pointer (some ⟨b, 0, none⟩), .slice (some ⟨k, 0, none⟩) ws.length cap] w fun e w' => e = .returned (.tuple #[]) ∧ PenUsed B b (l ++ lineW (ws.map wdB)) w' ∧ PG B b w w' := by
  have HM := Lib.hid (fun W (h : Below B w W) => hm.below h (Nat.le_refl B))
  have HS := Lib.hid hs
  have HK : Hid (∀ W, PG B b w W → ∀ (i : Nat) x, ws[i]? = some x → W.cell? ⟨k, i, none⟩ = some (wdVal x)) := Lib.hid fun W hW i x hx => by
    obtain ⟨p, v, hbk⟩ := h.block
    have hkb : k ≠ b := by
      rintro rfl
      rw [hk] at hbk
      injection hbk with hbk
      injection hbk with _ hT
      exact absurd hT (by decide)
    have := hW.block hk hkb (by decide)
    rw [Lib.cell_of_heap this]
    simp [hx]
  have HP := Lib.hid h
  obtain ⟨n, hn⟩ : ∃ n, n = ws.length := ⟨_, rfl⟩
  have HN := Lib.hid hn
  have HL := Lib.hid (jn_len hs)
  rw [← hn] at hw ⊢
  clear h hm hk hs hn
  go_enter Tryz.func13, Tryz.ntmps13
  go_wp2
  go_loopw [10] (fun b10 wr => ∃ i : Nat, i ≤ n ∧ b10 = .int .i64 i ∧ Hid (PenIs B b (l ++ jn ws i) wr) ∧ Hid (PG B b w wr)) (fun b10 _ => n - (intOf b10).toNat)
  case atStart => exact ⟨0, Nat.zero_le _, rfl, Lib.hid (by rw [jn_zero, List.append_nil]; exact HP.out), Lib.hid (PG.refl _ _ _)⟩
  case round =>
    clear HP
    obtain ⟨i, hi, rfl, hp, hg⟩ := hrel
    by_cases hlt : i < n
    · obtain ⟨x, hx⟩ : ∃ x, ws[i]? = some x := ⟨_, List.getElem?_eq_getElem (by rw [← HN.out]; exact hlt)⟩
      have e0 := HK.out _ hg.out i x hx
      have hxo := HS.out x (List.mem_of_getElem? hx)
      have hln := HL.out i
      have hBr : B ≤ wr.heap.size := Nat.le_trans hB hg.out.1.size
      have hx0 : Hid (ws[i]? = some x) := Lib.hid hx
      rcases Nat.eq_zero_or_pos i with h0 | h0
      · subst h0
        cases x with
        | n j =>
          have HX : Hid (l ++ jn ws 0 ++ (Bs (Lib.itoa j)).data.toList = l ++ jn ws (0 + 1)) := Lib.hid (by rw [list_Bs, jn_zero, List.append_nil, Nat.zero_add, jn_one hx0.out]; rfl)
          obtain ⟨a, ha⟩ : ∃ a, a = Bs (Lib.itoa j) := ⟨_, rfl⟩
          have haz : a.size ≤ 21 := by rw [ha]; exact itoa_size hxo.1 hxo.2
          have hj0 : -9223372036854775808 ≤ j := by have := hxo.1; omega
          have hj1 : j ≤ 9223372036854775807 := by have := hxo.2; omega
          have IT : Hid (∀ V W, PG B b w V → Below V.heap.size V W → Calls Tryz.prog 54 #[.int .i64 j] W fun e w' => e = .returned (.string a) ∧ Below V.heap.size V w') := Lib.hid fun V W hV hW => by
            rw [ha]
            exact (itoaP_any j hj0 hj1 B W (HM.out W (hV.1.trans (hW.mono (Nat.le_trans hB hV.1.size))))).mono fun e w' q => ⟨q.1, hW.trans (q.2.mono hW.size)⟩
          have ST : Hid (∀ V W, PenIs B b (l ++ jn ws 0) V → PG B b w V → Below V.heap.size V W → Calls Tryz.prog 53 #[.pointer (some ⟨b, 0, none⟩), .string a] W fun e w' => e = .returned (.tuple #[.int .i64 a.size, .nilIface]) ∧ PenUsed B b (l ++ jn ws (0 + 1)) w' ∧ PG B b V w') := Lib.hid fun V W hpV hV hW => by
            rw [← HX.out, ← ha]
            exact strAt hpV hW (by simp only [List.length_append, List.length_singleton]; omega) (Nat.le_trans hB hV.1.size)
          have T1 := as_int j
          unfold wdVal at e0
          clear ha HX hx hxo
          go_upto_region 8 with fail
          clear e0 T1
          have HD : Hid (Below wr.heap.size wr wr.drew) := Lib.hid (Below.refl _ _).drew
          go_region_held3 (fun _ => True) (first | trivial) (first | (go_at_call 54; (with_reducible refine (IT.out _ _ hg.out HD.out).mono ?_); rintro e w1 ⟨rfl, hb1⟩) | (go_at_call 53; (with_reducible refine (ST.out _ _ hp.out hg.out hb1).mono ?_); rintro e w2 ⟨rfl, hp2, hg2⟩))
          go_wp2_with fail
          go_roundw
          case rel => exact ⟨1, by omega, rfl, Lib.hid hp2.is, Lib.hid (hg.out.trans hg2)⟩
          case measure => simp [intOf] <;> omega
        | s t =>
          have HX : Hid (l ++ jn ws 0 ++ t.data.toList = l ++ jn ws (0 + 1)) := Lib.hid (by rw [jn_zero, List.append_nil, Nat.zero_add, jn_one hx0.out]; rfl)
          have haz : t.size ≤ 50 := hxo
          have ST : Hid (∀ V W, PenIs B b (l ++ jn ws 0) V → PG B b w V → Below V.heap.size V W → Calls Tryz.prog 53 #[.pointer (some ⟨b, 0, none⟩), .string t] W fun e w' => e = .returned (.tuple #[.int .i64 t.size, .nilIface]) ∧ PenUsed B b (l ++ jn ws (0 + 1)) w' ∧ PG B b V w') := Lib.hid fun V W hpV hV hW => by
            rw [← HX.out]
            exact strAt hpV hW (by simp only [List.length_append, List.length_singleton]; omega) (Nat.le_trans hB hV.1.size)
          have T1 := as_int_not t
          have T2 := as_str t
          unfold wdVal at e0
          clear HX hx hxo
          have HD : Hid (∀ V, Below V.heap.size V V) := Lib.hid fun V => Below.refl _ _
          go_wp2_with (first | fail | (go_at_call 53; (with_reducible refine (ST.out _ _ hp.out hg.out (HD.out _)).mono ?_); rintro e w2 ⟨rfl, hp2, hg2⟩))
          go_roundw
          case rel => exact ⟨1, by omega, rfl, Lib.hid hp2.is, Lib.hid (hg.out.trans hg2)⟩
          case measure => simp [intOf] <;> omega
      · cases x with
        | n j =>
          have HX : Hid (l ++ jn ws i ++ [32] ++ (Bs (Lib.itoa j)).data.toList = l ++ jn ws (i + 1)) := Lib.hid (by rw [list_Bs, List.append_assoc, List.append_assoc, jn_next hx0.out h0]; rfl)
          obtain ⟨a, ha⟩ : ∃ a, a = Bs (Lib.itoa j) := ⟨_, rfl⟩
          have haz : a.size ≤ 21 := by rw [ha]; exact itoa_size hxo.1 hxo.2
          have hj0 : -9223372036854775808 ≤ j := by have := hxo.1; omega
          have hj1 : j ≤ 9223372036854775807 := by have := hxo.2; omega
          have IT : Hid (∀ V W, PG B b w V → Below V.heap.size V W → Calls Tryz.prog 54 #[.int .i64 j] W fun e w' => e = .returned (.string a) ∧ Below V.heap.size V w') := Lib.hid fun V W hV hW => by
            rw [ha]
            exact (itoaP_any j hj0 hj1 B W (HM.out W (hV.1.trans (hW.mono (Nat.le_trans hB hV.1.size))))).mono fun e w' q => ⟨q.1, hW.trans (q.2.mono hW.size)⟩
          have ST : Hid (∀ V W, PenIs B b (l ++ jn ws i ++ [32]) V → PG B b w V → Below V.heap.size V W → Calls Tryz.prog 53 #[.pointer (some ⟨b, 0, none⟩), .string a] W fun e w' => e = .returned (.tuple #[.int .i64 a.size, .nilIface]) ∧ PenUsed B b (l ++ jn ws (i + 1)) w' ∧ PG B b V w') := Lib.hid fun V W hpV hV hW => by
            rw [← HX.out, ← ha]
            exact strAt hpV hW (by simp only [List.length_append, List.length_singleton]; omega) (Nat.le_trans hB hV.1.size)
          have T1 := as_int j
          have WB : Hid (Calls Tryz.prog 52 #[.pointer (some ⟨b, 0, none⟩), .int .u8 32] wr fun e w' => e = .returned .nilIface ∧ Hid (PenIs B b (l ++ jn ws i ++ [32]) w') ∧ Hid (PG B b w w')) := Lib.hid ((blankAt hp.out (by rw [List.length_append]; omega) hBr).mono fun e w' q => ⟨q.1, Lib.hid q.2.1.is, Lib.hid (hg.out.trans q.2.2)⟩)
          unfold wdVal at e0
          clear ha HX hx hxo
          go_upto_region 8 with (go_at_call 52; (with_reducible refine WB.out.mono ?_); rintro e w0 ⟨rfl, hp0, hg0⟩)
          clear e0 T1
          have HD : Hid (Below w0.heap.size w0 w0.drew) := Lib.hid (Below.refl _ _).drew
          go_region_held3 (fun _ => True) (first | trivial) (first | (go_at_call 54; (with_reducible refine (IT.out _ _ hg0.out HD.out).mono ?_); rintro e w1 ⟨rfl, hb1⟩) | (go_at_call 53; (with_reducible refine (ST.out _ _ hp0.out hg0.out hb1).mono ?_); rintro e w2 ⟨rfl, hp2, hg2⟩))
          go_wp2_with fail
          go_roundw
          case rel => exact ⟨i + 1, by omega, by go_num, Lib.hid hp2.is, Lib.hid (hg0.out.trans hg2)⟩
          case measure => simp [intOf] <;> omega
        | s t =>
          have HX : Hid (l ++ jn ws i ++ [32] ++ t.data.toList = l ++ jn ws (i + 1)) := Lib.hid (by rw [List.append_assoc, List.append_assoc, jn_next hx0.out h0]; rfl)
          have haz : t.size ≤ 50 := hxo
          have ST : Hid (∀ V W, PenIs B b (l ++ jn ws i ++ [32]) V → PG B b w V → Below V.heap.size V W → Calls Tryz.prog 53 #[.pointer (some ⟨b, 0, none⟩), .string t] W fun e w' => e = .returned (.tuple #[.int .i64 t.size, .nilIface]) ∧ PenUsed B b (l ++ jn ws (i + 1)) w' ∧ PG B b V w') := Lib.hid fun V W hpV hV hW => by
            rw [← HX.out]
            exact strAt hpV hW (by simp only [List.length_append, List.length_singleton]; omega) (Nat.le_trans hB hV.1.size)
          have T1 := as_int_not t
          have T2 := as_str t
          have WB : Hid (Calls Tryz.prog 52 #[.pointer (some ⟨b, 0, none⟩), .int .u8 32] wr fun e w' => e = .returned .nilIface ∧ Hid (PenIs B b (l ++ jn ws i ++ [32]) w') ∧ Hid (PG B b w w')) := Lib.hid ((blankAt hp.out (by rw [List.length_append]; omega) hBr).mono fun e w' q => ⟨q.1, Lib.hid q.2.1.is, Lib.hid (hg.out.trans q.2.2)⟩)
          unfold wdVal at e0
          clear HX hx hxo
          have HD : Hid (∀ V, Below V.heap.size V V) := Lib.hid fun V => Below.refl _ _
          go_wp2_with (first | (go_at_call 52; (with_reducible refine WB.out.mono ?_); rintro e w0 ⟨rfl, hp0, hg0⟩) | (go_at_call 53; (with_reducible refine (ST.out _ _ hp0.out hg0.out (HD.out _)).mono ?_); rintro e w2 ⟨rfl, hp2, hg2⟩))
          go_roundw
          case rel => exact ⟨i + 1, by omega, by go_num, Lib.hid hp2.is, Lib.hid (hg0.out.trans hg2)⟩
          case measure => simp [intOf] <;> omega
    · have hie : i = n := by omega
      subst hie
      have hln := HL.out i
      have EN : Hid (Calls Tryz.prog 52 #[.pointer (some ⟨b, 0, none⟩), .int .u8 10] wr fun e w' => e = .returned .nilIface ∧ PenUsed B b (l ++ lineW (ws.map wdB)) w' ∧ PG B b w w') := Lib.hid ((endAt hp.out (by rw [List.length_append]; omega) (Nat.le_trans hB hg.out.1.size)).mono fun e w' q => ⟨q.1, by rw [← jn_all, ← HN.out, ← List.append_assoc]; exact q.2.1, hg.out.trans q.2.2⟩)
      go_wp2_with (go_at_call 52; (with_reducible refine EN.out.mono ?_); rintro e w0 ⟨rfl, hp0, hg0⟩)
      go_end0
      exact ⟨rfl, hp0, hg0⟩
end Go.Proofs.YthhjgndaiimgjaaGreatDoor
end
