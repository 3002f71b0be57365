/- Tries: the reference's Find and Longest. -/
import Derived.Test.YtggepbkhhnhnkaaTrD
import Derived.StillTailTactics
import Derived.Deep.RegionHeld3
set_option linter.unusedVariables false
set_option linter.unusedSimpArgs false
namespace Gno
open Go
/-- a text's bytes as numbers. -/
def bs (s : ByteArray) : List Nat := s.data.toList.map (fun c => c.toNat)
theorem bs_len (s : ByteArray) : (bs s).length = s.size := by unfold bs; rw [List.length_map, Array.length_toList]; rfl
theorem bs_at (s : ByteArray) (i : Nat) (h : i < s.size) : (bs s)[i]? = some s[i].toNat := by
  unfold bs
  rw [List.getElem?_map]
  have : s.data.toList[i]? = some s[i] := by
    rw [List.getElem?_eq_getElem (by rw [Array.length_toList]; exact h)]; rfl
  rw [this]; rfl
theorem bs_inj {s t : ByteArray} (h : bs s = bs t) : s = t := by
  unfold bs at h
  have h2 : s.data.toList = t.data.toList := List.map_inj_right (fun a b e => UInt8.toNat_inj.1 e) |>.1 h
  have h3 : s.data = t.data := Array.toList_inj.1 h2
  cases s; cases t
  exact congrArg ByteArray.mk h3
theorem bs_take (s : ByteArray) (n : Nat) : bs (s.extract 0 n) = (bs s).take n := by
  unfold bs
  rw [← List.map_take]
  congr 1
  rw [Lib.extract_data, List.drop_zero, Nat.sub_zero]
theorem edOk_get {k len : Int} : ∀ {l : List Eg} {last : Int}, edOk k len last l = true → (∀ e ∈ l, k < e.to ∧ e.to < len ∧ last < (e.c : Int)) ∧ Rise l
  | [], _, _ => ⟨(fun e h => by cases h), List.Pairwise.nil⟩
  | x :: r, last, h => by
    unfold edOk at h
    simp only [Bool.and_eq_true, decide_eq_true_eq] at h
    obtain ⟨⟨⟨h1, h2⟩, h3⟩, h4⟩ := h
    obtain ⟨g1, g2⟩ := edOk_get h4
    refine ⟨fun e he => ?_, List.pairwise_cons.2 ⟨fun e he => ?_, g2⟩⟩
    · rcases List.mem_cons.1 he with rfl | he
      · exact ⟨h1, h2, h3⟩
      · have := g1 e he
        exact ⟨this.1, this.2.1, by omega⟩
    · have := g1 e he
      omega
theorem ndsOk_get {len : Int} : ∀ {t : List Nd} {k i : Nat} {q : Nd}, ndsOk len k t = true → t[i]? = some q → ndOk ((k + i : Nat) : Int) len q = true
  | [], k, i, q, _, h => by simp at h
  | n :: r, k, 0, q, h, hq => by
    obtain rfl : n = q := by simpa using hq
    unfold ndsOk at h
    rw [Bool.and_eq_true] at h
    exact h.1
  | n :: r, k, i + 1, q, h, hq => by
    unfold ndsOk at h
    rw [Bool.and_eq_true] at h
    have := ndsOk_get h.2 (i := i) (by simpa using hq)
    rwa [show k + 1 + i = k + (i + 1) by omega] at this
/-- what a right trie's nodes are. -/
theorem trieOk_get {t : List Nd} (h : trieOk t = true) {k : Nat} {q : Nd} (hq : t[k]? = some q) : -1 ≤ q.word ∧ (∀ e ∈ q.es, (k : Int) < e.to ∧ e.to < t.length) ∧ Rise q.es := by
  unfold trieOk at h
  rw [Bool.and_eq_true] at h
  have h2 := ndsOk_get h.2 hq
  unfold ndOk at h2
  rw [Bool.and_eq_true, decide_eq_true_eq, Nat.zero_add] at h2
  obtain ⟨g1, g2⟩ := edOk_get h2.2
  exact ⟨h2.1, fun e he => ⟨(g1 e he).1, (g1 e he).2.1⟩, g2⟩
theorem trieOk_to {t : List Nd} (h : trieOk t = true) {k : Nat} {q : Nd} (hq : t[k]? = some q) (c : Nat) : edTo q.es c = -1 ∨ ∃ j : Nat, edTo q.es c = (j : Int) ∧ j < t.length := by
  obtain ⟨_, h2, _⟩ := trieOk_get h hq
  rcases edTo_some (l := q.es) (c := c) with ⟨e, h3, h4, h5⟩ | ⟨h3, h4⟩
  · have := h2 e h3
    exact .inr ⟨e.to.toNat, by omega, by omega⟩
  · exact .inl h4
theorem trieOk_pos {t : List Nd} (h : trieOk t = true) : 0 < t.length := by
  cases t with
  | nil => cases h
  | cons a r => simp
theorem goT_at {t : List Nd} {a : Nat} {q : Nd} (hq : t[a]? = some q) {s : List Nat} {i c : Nat} (hc : s[i]? = some c) : goT t a (s.drop i) = goT t (edTo q.es c) (s.drop (i + 1)) := by
  rw [drop_at hc]
  show (if (a : Int) < 0 then (a : Int) else goT t (edTo (ndAt t a).es c) (s.drop (i + 1))) = _
  rw [if_neg (by omega), ndAt_of hq]
theorem findK_no {t : List Nd} {s : List Nat} (h : goT t 0 s = -1) : findK t s = -1 := by unfold findK; rw [h, if_pos (by omega)]
theorem findK_at {t : List Nd} {s : List Nat} {a : Nat} {q : Nd} (h : goT t 0 s = (a : Int)) (hq : t[a]? = some q) : findK t s = q.word := by
  unfold findK; rw [h, if_neg (by omega), ndAt_of hq]
end Gno
namespace Go.Proofs.Ytggepbkhhnhnkaa
open Go.RowKit Gno
set_option maxHeartbeats 8000000 in
theorem findR_any (t : List Nd) (A : Option Addr) (n cap : Nat) (s : ByteArray) (hs : s.size ≤ 9223372036854775807) (w : World) (hT : NodesAt w w.heap.size A n t) (hok : trieOk t = true) :
    Calls Try.prog 17 #[.slice A n cap, .string s] w fun e w' => e = .returned (.int .i64 (findK t (bs s))) ∧ Below w.heap.size w w' := by
  have hnl : n ≤ 9223372036854775807 := hT.2.1
  have HT := Lib.hid hT
  have HN : Hid (t.length = n) := Lib.hid hT.1
  have hpos : 0 < n := by have := trieOk_pos hok; rw [HN.out] at this; exact this
  have OK := Lib.hid hok
  clear hT hok
  go_enter Try.func17, Try.ntmps17
  go_wp2
  go_loopw [5, 6] (fun s5 s6 wr => ∃ (i : Nat) (a : Int), i ≤ s.size ∧ s6 = .int .i64 i ∧ s5 = .int .i64 a ∧ -1 ≤ a ∧ a < n ∧ Hid (goT t 0 (bs s) = goT t a ((bs s).drop i)) ∧ Below w.heap.size w wr) (fun _ s6 _ => s.size - (intOf s6).toNat)
  case atStart => exact ⟨0, 0, Nat.zero_le _, rfl, rfl, by omega, by omega, Lib.hid (by rw [List.drop_zero]), Below.refl _ _⟩
  case round =>
    obtain ⟨i, a, hi, rfl, rfl, ha0, han, hI, hb⟩ := hrel
    have hz := hb.size
    by_cases hneg : a < 0
    · obtain rfl : a = -1 := by omega
      have HX : Hid (-1 = findK t (bs s)) := Lib.hid (findK_no (by rw [hI.out, goT_neg t (by omega)])).symm
      clear hI hneg
      by_cases hlt : i < s.size
      · go_wp2
        go_ret
        exact ⟨retO_i HX.out, hb⟩
      · go_wp2
        go_ret
        exact ⟨retO_i HX.out, hb⟩
    · obtain ⟨k, rfl⟩ : ∃ k : Nat, a = (k : Int) := ⟨a.toNat, by omega⟩
      have hkn : k < n := by omega
      obtain ⟨b, o, q, hA, hbB, hq, A2, cap2, hqq⟩ := nodes_get HT.out hkn
      subst hA
      obtain ⟨e0, e1, hE⟩ := hqq _ hb
      have HQ := Lib.hid hq
      by_cases hlt : i < s.size
      · have hE2 := Lib.hid (fun (W : World) (h : Below wr.heap.size wr W) => (EdgesAt.next (SlAt.below keeps_ed hE (Below.refl _ _) hb.size) h))
        obtain ⟨c, hc⟩ : ∃ c, c = s[i].toNat := ⟨_, rfl⟩
        have HC : Hid (∀ W, Below wr.heap.size wr W → Calls Try.prog 25 #[.agg #[.slice A2 q.es.length cap2, .int .i64 q.word], .int .u8 c] W fun e w' => e = .returned (.int .i64 (edTo q.es c)) ∧ Below W.heap.size W w') := Lib.hid fun W hW => edgeOf_any q A2 cap2 c W (hE2.out W hW)
        have HG : Hid (goT t 0 (bs s) = goT t (edTo q.es c) ((bs s).drop (i + 1))) := Lib.hid (by rw [hI.out, hc]; exact goT_at HQ.out (bs_at s i hlt))
        have HB := trieOk_to OK.out HQ.out c
        obtain ⟨E, hEq⟩ : ∃ E, E = edTo q.es c := ⟨_, rfl⟩
        have hE0 : -1 ≤ E ∧ E < n := by
          rw [hEq]
          rw [HN.out] at HB
          rcases HB with h | ⟨j, h, hj⟩ <;> omega
        rw [hc] at HC
        rw [← hEq] at HG
        have HC : Hid (∀ W, Below wr.heap.size wr W → Calls Try.prog 25 #[.agg #[.slice A2 q.es.length cap2, .int .i64 q.word], .int .u8 s[i].toNat] W fun e w' => e = .returned (.int .i64 E) ∧ Below W.heap.size W w') := Lib.hid fun W hW => by rw [hEq, hc]; exact HC.out W hW
        obtain ⟨m, hm⟩ : ∃ m, m = q.es.length := ⟨_, rfl⟩
        rw [← hm] at HC e0
        clear hI hE hqq hq hE2 HB hEq hc hm hneg
        go_wp2
        go_still_tail 7, (by kernel_rfl)
        have hbd : Below wr.heap.size wr wr.drew := ⟨rfl, rfl, rfl, Nat.le_refl _, fun _ _ => rfl⟩
        go_wp2_with (go_at_call 25; (with_reducible refine (HC.out _ hbd).mono ?_); rintro e w2 ⟨rfl, hb2⟩; have hb3 := hb.trans ((hbd.trans (hb2.mono hbd.size)).mono hb.size); clear hb2)
        go_roundw
        case rel => exact ⟨i + 1, E, by omega, by go_num, rfl, hE0.1, hE0.2, HG, hb3⟩
        case measure => simp [intOf]; omega
      · have HX : Hid (q.word = findK t (bs s)) := Lib.hid (findK_at (by rw [hI.out, List.drop_eq_nil_of_le (by rw [bs_len]; omega)]; rfl) HQ.out).symm
        clear hI hE hqq hq
        go_wp2
        go_ret
        exact ⟨retO_i HX.out, hb⟩
end Go.Proofs.Ytggepbkhhnhnkaa
