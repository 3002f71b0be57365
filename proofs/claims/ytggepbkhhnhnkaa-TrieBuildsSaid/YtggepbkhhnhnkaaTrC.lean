/- Tries: Check, and the reference's. -/
import Derived.Test.YtggepbkhhnhnkaaTrM
set_option linter.unusedVariables false
set_option linter.unusedSimpArgs false
namespace Gno
open Go
theorem drop_at {α : Type} {l : List α} {i : Nat} {x : α} (h : l[i]? = some x) : l.drop i = x :: l.drop (i + 1) := by
  have hl := (List.getElem?_eq_some_iff.1 h).1
  rw [List.drop_eq_getElem_cons hl, (List.getElem?_eq_some_iff.1 h).2]
theorem trie_start {t : List Nd} (h : 0 < t.length) : trieOk t = ndsOk t.length 0 (t.drop 0) := by
  unfold trieOk
  cases t with
  | nil => simp at h
  | cons a r => rfl
theorem nds_at {t : List Nd} {k : Nat} {q : Nd} (len : Int) (h : t[k]? = some q) : ndsOk len k (t.drop k) = (decide (-1 ≤ q.word) && (edOk k len (-1) (q.es.drop 0) && ndsOk len (k + 1) (t.drop (k + 1)))) := by
  rw [drop_at h, ndsOk, ndOk, List.drop_zero, Bool.and_assoc]
theorem ed_at {l : List Eg} {i : Nat} {x : Eg} (k len last : Int) (h : l[i]? = some x) : edOk k len last (l.drop i) = (decide (k < x.to) && decide (x.to < len) && decide (last < (x.c : Int)) && edOk k len x.c (l.drop (i + 1))) := by
  rw [drop_at h, edOk]
theorem ed_end {l : List Eg} {i : Nat} (k len last : Int) (h : l.length ≤ i) : edOk k len last (l.drop i) = true := by rw [List.drop_eq_nil_of_le h]; rfl
theorem nds_end {t : List Nd} {k : Nat} (len : Int) (h : t.length ≤ k) : ndsOk len k (t.drop k) = true := by rw [List.drop_eq_nil_of_le h]; rfl
theorem trieE_no {t : List Nd} (h : trieOk t = false) : trieE t = 1 := by unfold trieE; rw [h]; rfl
theorem trieE_yes {t : List Nd} (h : trieOk t = true) : trieE t = 0 := by unfold trieE; rw [if_pos h]
theorem trieOk_nil {t : List Nd} (h : t.length = 0) : trieOk t = false := by
  cases t with
  | nil => rfl
  | cons a r => simp at h
end Gno
namespace Go.Proofs.Ytggepbkhhnhnkaa
open Go.RowKit Gno
theorem retO_i {m n : Int} (h : m = n) : Ending.returned (.int .i64 m) = .returned (.int .i64 n) := by rw [h]
set_option maxHeartbeats 4000000 in
theorem edgeOf_any (x : Nd) (A : Option Addr) (cap : Nat) (c : Nat) (w : World) (hE : EdgesAt w w.heap.size A x.es.length x.es) :
    Calls Try.prog 25 #[.agg #[.slice A x.es.length cap, .int .i64 x.word], .int .u8 c] w fun e w' => e = .returned (.int .i64 (edTo x.es c)) ∧ Below w.heap.size w w' := by
  have hb0 : Below w.heap.size w (w.alloc (.cells #[.slice A x.es.length cap, .int .i64 x.word] 49)) := (Below.refl _ _).alloc (Nat.le_refl _) _
  have hnl : x.es.length ≤ 9223372036854775807 := hE.2.1
  have HE := Lib.hid hE
  obtain ⟨l, hl⟩ : ∃ l, l = x.es := ⟨_, rfl⟩
  rw [← hl] at HE hb0 hnl ⊢
  obtain ⟨n, hn⟩ : ∃ n, n = l.length := ⟨_, rfl⟩
  rw [← hn] at HE hb0 hnl ⊢
  have HN := Lib.hid hn
  clear hl hn hE
  go_enter Try.func25, Try.ntmps25
  go_wp2
  go_loop [5] (fun s5 => ∃ i : Nat, i ≤ n ∧ s5 = .int .i64 i ∧ Hid (edTo (l.drop i) c = edTo l c)) (fun s5 => n - (intOf s5).toNat)
  case atStart => exact ⟨0, Nat.zero_le _, rfl, Lib.hid (by rw [List.drop_zero])⟩
  case round =>
    obtain ⟨i, hi, rfl, hI⟩ := hrel
    by_cases hlt : i < n
    · obtain ⟨b, o, q, hA, hbB, hq, hqc, hqq⟩ := edges_get HE.out hlt
      subst hA
      obtain ⟨e0, e1⟩ := hqq _ hb0
      have hd := drop_at hq
      by_cases hc : q.c = c
      · have HX : Hid (q.to = edTo l c) := Lib.hid (by rw [← hI.out, hd, edTo, if_pos hc])
        clear hq hqq hd hI
        go_wp2
        go_ret
        exact ⟨retO_i HX.out, hb0⟩
      · have HX : Hid (edTo (l.drop (i + 1)) c = edTo l c) := Lib.hid (by rw [← hI.out, hd, edTo, if_neg hc])
        clear hq hqq hd hI
        go_wp2
        go_round
        case rel => exact ⟨i + 1, by omega, by go_num, HX⟩
        case measure => simp [intOf]; omega
    · have HX : Hid (-1 = edTo l c) := Lib.hid (by rw [← hI.out, List.drop_eq_nil_of_le (by rw [← HN.out]; omega), edTo])
      clear hI
      go_wp2
      go_ret
      exact ⟨retO_i HX.out, hb0⟩
set_option maxHeartbeats 8000000 in
theorem check_any (t : List Nd) (A : Option Addr) (n cap : Nat) (w : World) (hT : NodesAt w w.heap.size A n t) :
    Calls Try.prog 12 #[.slice A n cap] w fun e w' => e = .returned (.int .i64 (trieE t)) ∧ Below w.heap.size w w' := by
  have hnl : n ≤ 9223372036854775807 := hT.2.1
  have HT := Lib.hid hT
  have HN : Hid (t.length = n) := Lib.hid hT.1
  clear hT
  by_cases h0 : n = 0
  · have HX : Hid (1 = trieE t) := Lib.hid (trieE_no (trieOk_nil (HN.out.trans h0))).symm
    subst h0
    go_enter Try.func12, Try.ntmps12
    go_wp2
    go_ret
    exact ⟨retO_i HX.out, Below.refl _ _⟩
  · have hpos : 0 < n := by omega
    have hn0 : ((n : Int) == 0) = false := by rw [beq_eq_false_iff_ne]; omega
    clear h0
    go_enter Try.func12, Try.ntmps12
    go_wp2
    go_loopw [13] (fun s13 wr => ∃ k : Nat, k ≤ n ∧ s13 = .int .i64 k ∧ Hid (trieOk t = ndsOk n k (t.drop k)) ∧ Below w.heap.size w wr) (fun s13 _ => n - (intOf s13).toNat)
    case atStart => exact ⟨0, Nat.zero_le _, rfl, Lib.hid (by rw [trie_start (by rw [HN.out]; exact hpos), HN.out]), Below.refl _ _⟩
    case round =>
      obtain ⟨k, hk, rfl, hI, hb⟩ := hrel
      have hz := hb.size
      by_cases hlt : k < n
      · obtain ⟨b, o, q, hA, hbB, hq, A2, cap2, hqq⟩ := nodes_get HT.out hlt
        subst hA
        obtain ⟨e0, e1, _⟩ := hqq _ hb
        have hE := (hqq w (Below.refl _ _)).2.2
        have HE := Lib.hid hE
        have HI2 : Hid (trieOk t = (decide (-1 ≤ q.word) && (edOk k n (-1) (q.es.drop 0) && ndsOk n (k + 1) (t.drop (k + 1))))) := Lib.hid (hI.out.trans (nds_at _ hq))
        have hml : q.es.length ≤ 9223372036854775807 := hE.2.1
        obtain ⟨m, hm⟩ : ∃ m, m = q.es.length := ⟨_, rfl⟩
        have HM := Lib.hid hm
        rw [← hm] at e0 hml HE
        clear hm hq hqq hI hE
        by_cases hw : q.word < -1
        · have HX : Hid (1 = trieE t) := Lib.hid (trieE_no (by rw [HI2.out, decide_eq_false (by omega)]; rfl)).symm
          clear HI2
          go_wp2
          go_ret
          exact ⟨retO_i HX.out, hb.alloc hz _⟩
        · have HI3 : Hid (trieOk t = (edOk k n (-1) (q.es.drop 0) && ndsOk n (k + 1) (t.drop (k + 1)))) := Lib.hid (HI2.out.trans (by rw [decide_eq_true (show -1 ≤ q.word by omega)]; rfl))
          have hb1 : Below w.heap.size w (wr.alloc (.cells #[.slice A2 m cap2, .int .i64 q.word] 49)) := hb.alloc hz _
          clear HI2
          obtain ⟨wo, hwo⟩ : ∃ wo : World, wo = wr := ⟨_, rfl⟩
          rw [← hwo] at hb hz e0 e1 hb1
          rw [← hwo]
          clear hwo
          go_wp2
          go_loopw [5, 24] (fun s5 s24 wr => ∃ (i : Nat) (last : Int), i ≤ m ∧ s24 = .int .i64 i ∧ s5 = .int .i64 last ∧ Hid (trieOk t = (edOk k n last (q.es.drop i) && ndsOk n (k + 1) (t.drop (k + 1)))) ∧ Below w.heap.size w wr) (fun _ s24 _ => m - (intOf s24).toNat)
          case atStart => exact ⟨0, -1, Nat.zero_le _, rfl, rfl, HI3, hb1⟩
          case round =>
            obtain ⟨i, last, hi, rfl, rfl, hJ, hb2⟩ := hrel
            have hz2 := hb2.size
            by_cases hit : i < m
            · obtain ⟨b2, o2, x, hA2, hbB2, hx, hxc, hxx⟩ := edges_get HE.out hit
              subst hA2
              obtain ⟨f0, f1⟩ := hxx _ hb2
              have HJ := Lib.hid (hJ.out.trans (by rw [ed_at _ _ _ hx]))
              have hb3 : Below w.heap.size w (wr.alloc (.cells #[.int .u8 x.c, .int .i64 x.to] 54)) := hb2.alloc hz2 _
              clear hx hxx hJ
              by_cases g1 : x.to ≤ k
              · have HX : Hid (1 = trieE t) := Lib.hid (trieE_no (by rw [HJ.out, decide_eq_false (show ¬ (k : Int) < x.to by omega)]; rfl)).symm
                clear HJ
                go_wp2
                go_ret
                exact ⟨retO_i HX.out, hb3⟩
              · by_cases g2 : (n : Int) ≤ x.to
                · have HX : Hid (1 = trieE t) := Lib.hid (trieE_no (by rw [HJ.out, decide_eq_false (show ¬ x.to < (n : Int) by omega)]; simp)).symm
                  clear HJ
                  go_wp2
                  go_ret
                  exact ⟨retO_i HX.out, hb3⟩
                · by_cases g3 : (x.c : Int) ≤ last
                  · have HX : Hid (1 = trieE t) := Lib.hid (trieE_no (by rw [HJ.out, decide_eq_false (show ¬ last < (x.c : Int) by omega)]; simp)).symm
                    clear HJ
                    go_wp2
                    go_ret
                    exact ⟨retO_i HX.out, hb3⟩
                  · have HX : Hid (trieOk t = (edOk k n x.c (q.es.drop (i + 1)) && ndsOk n (k + 1) (t.drop (k + 1)))) := Lib.hid (HJ.out.trans (by rw [decide_eq_true (show (k : Int) < x.to by omega), decide_eq_true (show x.to < (n : Int) by omega), decide_eq_true (show last < (x.c : Int) by omega)]; rfl))
                    clear HJ
                    go_wp2
                    go_roundw
                    case rel => exact ⟨i + 1, _, by omega, by go_num, rfl, HX, hb3⟩
                    case measure => simp [intOf]; omega
            · have HX : Hid (trieOk t = ndsOk n (k + 1 : Nat) (t.drop (k + 1))) := Lib.hid (hJ.out.trans (by rw [ed_end _ _ _ (by rw [← HM.out]; omega)]; rfl))
              clear hJ
              go_wp2
              go_roundw
              case rel => exact ⟨k + 1, by omega, by go_num, HX, hb2⟩
              case measure => simp [intOf]; omega
      · have HX : Hid (0 = trieE t) := Lib.hid (trieE_yes (by rw [hI.out, nds_end _ (by rw [HN.out]; omega)])).symm
        clear hI
        go_wp2
        go_ret
        exact ⟨retO_i HX.out, hb⟩
end Go.Proofs.Ytggepbkhhnhnkaa
