/- Plain: tries while they are built: their edges rise and lead into them. -/
import Derived.Test.YtggepbkhhnhnkaaTrR
set_option linter.unusedVariables false
set_option linter.unusedSimpArgs false
namespace Gno
open Go Go.RowKit Go.Proofs.Ytggepbkhhnhnkaa
def GoodT (t : List Nd) : Prop := ∀ (i : Nat) n, t[i]? = some n → Rise n.es ∧ ∀ e ∈ n.es, e.c ≤ 255 ∧ ∃ j : Nat, e.to = (j : Int) ∧ j < t.length
theorem good_root : GoodT root := fun i n hi => by
  have h := (List.getElem?_eq_some_iff.1 hi).1
  obtain rfl : i = 0 := by simp [root] at h; omega
  obtain rfl : (⟨[], -1⟩ : Nd) = n := by simpa [root] using hi
  exact ⟨List.Pairwise.nil, fun e he => by cases he⟩
theorem good_to {t : List Nd} (h : GoodT t) {a : Nat} {n : Nd} (hn : t[a]? = some n) (c : Nat) : (∃ j : Nat, edTo n.es c = (j : Int) ∧ j < t.length) ∨ (edTo n.es c = -1 ∧ ∀ e ∈ n.es, e.c ≠ c) := by
  obtain ⟨h1, h2⟩ := h a n hn
  rcases edTo_some (l := n.es) (c := c) with ⟨e, h3, h4, h5⟩ | ⟨h3, h4⟩
  · obtain ⟨_, j, hj, hl⟩ := h2 e h3
    exact .inl ⟨j, h5.trans hj, hl⟩
  · exact .inr ⟨h4, h3⟩
theorem good_mark {t : List Nd} (h : GoodT t) (a k : Nat) : GoodT (markT t a k) := by
  unfold markT
  split
  · intro i n hi
    rw [List.length_set]
    rcases set_get hi with ⟨rfl, rfl⟩ | ⟨_, hi⟩
    · have hl := (List.getElem?_eq_some_iff.1 hi).1
      rw [List.length_set] at hl
      rw [ndAt_of (List.getElem?_eq_getElem hl)]
      have := h i _ (List.getElem?_eq_getElem hl)
      exact this
    · exact h i n hi
  · exact h
theorem good_grow {t : List Nd} (h : GoodT t) {a : Nat} {n : Nd} (hn : t[a]? = some n) {c : Nat} (hc : c ≤ 255) (hno : ∀ e ∈ n.es, e.c ≠ c) : GoodT (t.set a ⟨insE n.es ⟨c, t.length⟩, n.word⟩ ++ [⟨[], -1⟩]) := by
  obtain ⟨h1, h2⟩ := h a n hn
  intro i m hi
  have hlen : (t.set a (⟨insE n.es ⟨c, t.length⟩, n.word⟩ : Nd) ++ [(⟨[], -1⟩ : Nd)]).length = t.length + 1 := by simp
  rw [hlen]
  rcases get_snoc hi with hi | ⟨_, rfl⟩
  · rcases set_get hi with ⟨rfl, rfl⟩ | ⟨_, hi⟩
    · refine ⟨insE_rise h1 hno, fun e he => ?_⟩
      rcases insE_mem.1 he with rfl | he
      · exact ⟨hc, t.length, rfl, by omega⟩
      · obtain ⟨g1, j, g2, g3⟩ := h2 e he
        exact ⟨g1, j, g2, by omega⟩
    · obtain ⟨k1, k2⟩ := h i m hi
      refine ⟨k1, fun e he => ?_⟩
      obtain ⟨g1, j, g2, g3⟩ := k2 e he
      exact ⟨g1, j, g2, by omega⟩
  · exact ⟨List.Pairwise.nil, fun e he => by cases he⟩
theorem rise_lo : ∀ {l : List Eg} {lo : Nat}, Rise l → (∀ e ∈ l, lo ≤ e.c ∧ e.c ≤ 255) → lo ≤ 256 → l.length + lo ≤ 256
  | [], lo, _, _, h => by simpa using h
  | x :: r, lo, hr, hb, h => by
    obtain ⟨ha, hb2⟩ := List.pairwise_cons.1 hr
    have hx := hb x List.mem_cons_self
    have := rise_lo (l := r) (lo := x.c + 1) hb2 (fun e he => ⟨ha e he, (hb e (List.mem_cons_of_mem _ he)).2⟩) (by omega)
    simp only [List.length_cons]
    omega
theorem good_len {t : List Nd} (h : GoodT t) {a : Nat} {n : Nd} (hn : t[a]? = some n) : n.es.length ≤ 256 := by
  obtain ⟨h1, h2⟩ := h a n hn
  have := rise_lo (lo := 0) h1 (fun e he => ⟨Nat.zero_le _, (h2 e he).1⟩) (by omega)
  omega
/-- a byte's step, where there is an edge; where there is none. -/
theorem step_yes {t : List Nd} {a : Nat} {n : Nd} (hn : t[a]? = some n) {c j : Nat} (h : edTo n.es c = (j : Int)) : stepT t a c = t ∧ stepA t a c = j := by
  unfold stepT stepA
  rw [ndAt_of hn, if_neg (by omega), if_neg (by omega)]
  exact ⟨rfl, by omega⟩
theorem step_no {t : List Nd} {a : Nat} {n : Nd} (hn : t[a]? = some n) {c : Nat} (h : edTo n.es c = -1) : stepT t a c = t.set a ⟨insE n.es ⟨c, t.length⟩, n.word⟩ ++ [⟨[], -1⟩] ∧ stepA t a c = t.length := by
  unfold stepT stepA
  rw [ndAt_of hn, if_pos (by omega), if_pos (by omega)]
  exact ⟨rfl, rfl⟩
theorem goB_at {t : List Nd} {a : Nat} {s : List Nat} {i c : Nat} (hc : s[i]? = some c) : goBT t a (s.drop i) = goBT (stepT t a c) (stepA t a c) (s.drop (i + 1)) ∧ goBA t a (s.drop i) = goBA (stepT t a c) (stepA t a c) (s.drop (i + 1)) := by
  rw [drop_at hc]; exact ⟨rfl, rfl⟩
theorem byte_le (s : ByteArray) (i : Nat) (h : i < s.size) : s[i].toNat ≤ 255 := by
  have := s[i].toNat_lt
  omega
/-! what is asked of words -/
def wordBad (s : ByteArray) : Bool := decide (s.size = 0) || decide (12 < s.size)
def wordsE (l : List ByteArray) : Int := if 40 < l.length then 2 else if l.any wordBad = true then 5 else 0
def bsL (l : List ByteArray) : List (List Nat) := l.map bs
theorem any_at {l : List ByteArray} {i : Nat} {b : ByteArray} (h : l[i]? = some b) : (l.drop i).any wordBad = (wordBad b || (l.drop (i + 1)).any wordBad) := by rw [drop_at h]; rfl
theorem any_end {l : List ByteArray} {i : Nat} (h : l.length ≤ i) : (l.drop i).any wordBad = false := by rw [List.drop_eq_nil_of_le h]; rfl
end Gno
namespace Go.Proofs.Ytggepbkhhnhnkaa
open Go.RowKit Gno
set_option maxHeartbeats 4000000 in
theorem bad_any (s : ByteArray) (w : World) : Calls Try.prog 21 #[.string s] w fun e w' => e = .returned (.bool (wordBad s)) ∧ w = w' := by
  have hs : s.size = 0 ∨ ¬ s.size = 0 := Classical.em _
  rcases hs with hs | hs
  · have HX : Hid (true = wordBad s) := Lib.hid (by unfold wordBad; rw [decide_eq_true hs]; rfl)
    have hz : s = ⟨#[]⟩ := by
      cases s with
      | mk d => simp [ByteArray.size] at hs; rw [hs]
    subst hz
    clear hs
    go_enter Try.func21, Try.ntmps21
    go_wp2
    go_ret
    exact ⟨by first | exact retO_b HX.out | rfl, rfl⟩
  · have hz : s.toList.isEmpty = false := by
      rw [Lib.toList_data]
      cases h : s.data.toList with
      | nil => exact absurd (by rw [Lib.size_eq, h]; rfl) hs
      | cons a r => rfl
    have hz2 : ¬ s.toList = [] := fun e => by rw [e] at hz; cases hz
    by_cases h12 : 12 < s.size
    · have HX : Hid (true = wordBad s) := Lib.hid (by unfold wordBad; rw [decide_eq_true h12, Bool.or_true])
      have hd : decide ((12 : Int) < (s.size : Int)) = true := decide_eq_true (by omega)
      clear hs
      go_enter Try.func21, Try.ntmps21
      go_wp2
      go_ret
      exact ⟨retO_b HX.out, rfl⟩
    · have HX : Hid (false = wordBad s) := Lib.hid (by unfold wordBad; rw [decide_eq_false hs, decide_eq_false h12]; rfl)
      have hd : decide ((12 : Int) < (s.size : Int)) = false := decide_eq_false (by omega)
      clear hs
      go_enter Try.func21, Try.ntmps21
      go_wp2
      go_ret
      exact ⟨retO_b HX.out, rfl⟩
theorem strs_get {w : World} {B : Nat} {A : Option Addr} {n : Nat} {l : List ByteArray} (h : StrsAt w B A n l) {i : Nat} (hi : i < n) :
    ∃ b o s, A = some ⟨b, o, none⟩ ∧ b < B ∧ l[i]? = some s ∧ ∀ W, Below B w W → W.cell? ⟨b, o + i, none⟩ = some (.string s) := by
  obtain ⟨b, o, hA, hbB, hc⟩ := h.2.2 (by omega)
  have hl : i < l.length := by rw [h.1]; exact hi
  exact ⟨b, o, l[i], hA, hbB, List.getElem?_eq_getElem hl, fun W hW => (hW.cell hbB).trans (hc i _ (List.getElem?_eq_getElem hl))⟩
theorem fst_ge {α : Type} (p : α → Bool) : ∀ (l : List α) (k : Int), 0 ≤ k → (l.any p = decide (0 ≤ fst p l k))
  | [], k, h => rfl
  | b :: t, k, h => by
    unfold fst
    rw [List.any_cons]
    cases hb : p b
    · rw [if_neg (by simp), Bool.false_or]; exact fst_ge p t (k + 1) (by omega)
    · rw [if_pos rfl, decide_eq_true h]; rfl
set_option maxHeartbeats 4000000 in
theorem indexBad_any (A : Option Addr) (n cap : Nat) (l : List ByteArray) (w : World) (hT : StrsAt w w.heap.size A n l) :
    Calls Try.prog 27 #[.slice A n cap, .func (.func 21) #[] #[]] w fun e w' => e = .returned (.int .i64 (fst wordBad l 0)) ∧ w = w' := by
  have hn : n ≤ 9223372036854775807 := hT.2.1
  have HT := Lib.hid hT
  have C := Lib.hid (fun s w => bad_any s w)
  have eg : ∀ args w, (callFunc 21 args).run Try.prog w = .ok (.enter 21 args) w := fun _ _ => rfl
  clear hT
  go_enter Try.func27, Try.ntmps27
  go_wp2
  go_loop [8] (fun b0 => ∃ i : Nat, i ≤ n ∧ b0 = .int .i64 i ∧ Hid (fst wordBad (l.drop i) i = fst wordBad l 0)) (fun b0 => n - (intOf b0).toNat)
  case atStart => exact ⟨0, Nat.zero_le _, rfl, Lib.hid (by simp)⟩
  case round =>
    obtain ⟨i, hi, rfl, hfd⟩ := hrel
    by_cases hlt : i < n
    · obtain ⟨b, o, q, hA, hbB, hq, hqq⟩ := strs_get HT.out hlt
      subst hA
      have e0 := hqq _ (Below.refl _ _)
      have FD := Lib.hid (fst_drop (p := wordBad) hq)
      have c := C.out q w
      clear hq hqq
      cases hpk : wordBad q
      · rw [hpk] at c
        have D := Lib.hid c
        have HX := Lib.hid ((FD.out.2 hpk).symm.trans hfd.out)
        clear c hfd hpk
        go_wp2_with (go_at_fn 21; (with_reducible refine D.out.mono ?_); rintro e w4 ⟨rfl, rfl⟩)
        go_round
        case rel => exact ⟨i + 1, by omega, by go_num, HX⟩
        case measure => simp [intOf]; omega
      · rw [hpk] at c
        have D := Lib.hid c
        have HX := Lib.hid ((FD.out.1 hpk).symm.trans hfd.out)
        clear c hfd hpk
        go_wp2_with (go_at_fn 21; (with_reducible refine D.out.mono ?_); rintro e w4 ⟨rfl, rfl⟩)
        go_ret
        exact ⟨retO_i HX.out, rfl⟩
    · have HX := Lib.hid ((fst_end (p := wordBad) (by have := HT.out.1; omega)).symm.trans hfd.out)
      go_wp2
      go_ret
      exact ⟨retO_i HX.out, rfl⟩
set_option maxHeartbeats 4000000 in
theorem containsBad_any (A : Option Addr) (n cap : Nat) (l : List ByteArray) (w : World) (hT : StrsAt w w.heap.size A n l) :
    Calls Try.prog 20 #[.slice A n cap, .func (.func 21) #[] #[]] w fun e w' => e = .returned (.bool (l.any wordBad)) ∧ w = w' := by
  have C := Lib.hid (indexBad_any A n cap l w hT)
  obtain ⟨F, hF⟩ : ∃ F, F = fst wordBad l 0 := ⟨_, rfl⟩
  have HX : Hid (decide (0 ≤ F) = l.any wordBad) := Lib.hid (by rw [hF]; exact (fst_ge wordBad l 0 (by omega)).symm)
  rw [← hF] at C
  clear hF hT
  go_enter Try.func20, Try.ntmps20
  go_wp2_with (go_at_call 27; (with_reducible refine C.out.mono ?_); rintro e w4 ⟨rfl, rfl⟩)
  go_ret
  exact ⟨retO_b HX.out, rfl⟩
set_option maxHeartbeats 4000000 in
/-- the reference's errors of words. -/
theorem buildE_any (A : Option Addr) (n cap : Nat) (l : List ByteArray) (w : World) (hT : StrsAt w w.heap.size A n l) (hs : ∀ s ∈ l, s.size ≤ 9223372036854775807) :
    Calls Try.prog 9 #[.slice A n cap] w fun e w' => e = .returned (.int .i64 (wordsE l)) ∧ w = w' := by
  have hn : n ≤ 9223372036854775807 := hT.2.1
  have HT := Lib.hid hT
  have HN : Hid (l.length = n) := Lib.hid hT.1
  have C := Lib.hid (fun k w => withinT_any k 1 12 w)
  clear hT hs
  by_cases h40 : 40 < n
  · have HX : Hid (2 = wordsE l) := Lib.hid (by unfold wordsE; rw [if_pos (by rw [HN.out]; exact h40)])
    go_enter Try.func9, Try.ntmps9
    go_wp2
    go_ret
    exact ⟨retO_i HX.out, rfl⟩
  · have HW : Hid (wordsE l = if l.any wordBad = true then 5 else 0) := Lib.hid (by unfold wordsE; rw [if_neg (by rw [HN.out]; exact h40)])
    have hd : decide ((40 : Int) < (n : Int)) = false := decide_eq_false (by omega)
    go_enter Try.func9, Try.ntmps9
    go_wp2
    go_loop [3] (fun s3 => ∃ i : Nat, i ≤ n ∧ s3 = .int .i64 i ∧ Hid ((l.drop i).any wordBad = l.any wordBad)) (fun s3 => n - (intOf s3).toNat)
    case atStart => exact ⟨0, Nat.zero_le _, rfl, Lib.hid (by rw [List.drop_zero])⟩
    case round =>
      obtain ⟨i, hi, rfl, hI⟩ := hrel
      by_cases hlt : i < n
      · obtain ⟨b, o, q, hA, hbB, hq, hqq⟩ := strs_get HT.out hlt
        subst hA
        have e0 := hqq _ (Below.refl _ _)
        have HI := Lib.hid ((any_at hq).symm.trans hI.out)
        have c := C.out q.size w
        clear hq hqq hI
        by_cases hg : (1 : Int) ≤ (q.size : Int) ∧ (q.size : Int) ≤ 12
        · rw [decide_eq_true hg] at c
          have D := Lib.hid c
          have HX : Hid ((l.drop (i + 1)).any wordBad = l.any wordBad) := Lib.hid (by rw [← HI.out]; unfold wordBad; rw [decide_eq_false (by omega), decide_eq_false (by omega)]; rfl)
          clear c HI hg
          go_wp2_with (go_at_call 24; (with_reducible refine D.out.mono ?_); rintro e w4 ⟨rfl, rfl⟩)
          go_round
          case rel => exact ⟨i + 1, by omega, by go_num, HX⟩
          case measure => simp [intOf]; omega
        · rw [decide_eq_false hg] at c
          have D := Lib.hid c
          have HX : Hid (5 = wordsE l) := Lib.hid (by
            have hb : wordBad q = true := by
              unfold wordBad
              by_cases h0 : q.size = 0
              · rw [decide_eq_true h0]; rfl
              · rw [decide_eq_true (show 12 < q.size by omega), Bool.or_true]
            rw [HW.out, ← HI.out, hb]; rfl)
          clear c HI hg
          go_wp2_with (go_at_call 24; (with_reducible refine D.out.mono ?_); rintro e w4 ⟨rfl, rfl⟩)
          go_ret
          exact ⟨retO_i HX.out, rfl⟩
      · have HX : Hid (0 = wordsE l) := Lib.hid (by rw [HW.out, ← hI.out, any_end (by rw [HN.out]; omega)]; rfl)
        clear hI
        go_wp2
        go_ret
        exact ⟨retO_i HX.out, rfl⟩
end Go.Proofs.Ytggepbkhhnhnkaa
