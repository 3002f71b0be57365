/- Tries in memory; an edge sought. -/
import Derived.Test.YtggepbkhhnhnkaaTrQ
import Derived.Test.YtggepbkhhnhnkaaOpen
import Derived.Test.YtggepbkhhnhnkaaFst
import Derived.Deep.LoopGhost
set_option linter.unusedVariables false
set_option linter.unusedSimpArgs false
namespace Gno
open Go Go.RowKit Go.Proofs.Ytggepbkhhnhnkaa
def EdAt (w : World) (b o : Nat) (e : Eg) : Prop := w.cell? ⟨b, o, none⟩ = some (.int .u8 e.c) ∧ w.cell? ⟨b, o + 1, none⟩ = some (.int .i64 e.to)
def EdgesAt : World → Nat → Option Addr → Nat → List Eg → Prop := SlAt 2 (fun w B b o e => EdAt w b o e ∧ e.c ≤ 255)
def NdAt (w : World) (B b o : Nat) (x : Nd) : Prop := ∃ A cap, w.cell? ⟨b, o, none⟩ = some (.slice A x.es.length cap) ∧ w.cell? ⟨b, o + 1, none⟩ = some (.int .i64 x.word) ∧ EdgesAt w B A x.es.length x.es
def NodesAt : World → Nat → Option Addr → Nat → List Nd → Prop := SlAt 2 NdAt
theorem EdAt.below {w w' : World} {B b o : Nat} {x : Eg} (h : EdAt w b o x) (hb : Below B w w') (hB : b < B) : EdAt w' b o x := ⟨(hb.cell hB).trans h.1, (hb.cell hB).trans h.2⟩
theorem keeps_ed : Keeps (fun w B b o e => EdAt w b o e ∧ e.c ≤ 255) := fun _ _ _ _ _ _ _ hb hB hbB h => ⟨h.1.below hb (by omega), h.2⟩
theorem keeps_nd : Keeps NdAt := fun _ _ _ _ _ _ _ hb hB hbB h => by
  obtain ⟨A, cap, h1, h2, h3⟩ := h
  exact ⟨A, cap, (hb.cell (Nat.lt_of_lt_of_le hbB hB)).trans h1, (hb.cell (Nat.lt_of_lt_of_le hbB hB)).trans h2, SlAt.below keeps_ed h3 hb hB⟩
theorem EdgesAt.next {w W : World} {A : Option Addr} {n : Nat} {l : List Eg} (h : EdgesAt w w.heap.size A n l) (hb : Below w.heap.size w W) : EdgesAt W W.heap.size A n l :=
  SlAt.below keeps_ed (SlAt.below keeps_ed h hb (Nat.le_refl _)) (Below.refl W.heap.size _) hb.size
theorem NodesAt.next {w W : World} {A : Option Addr} {n : Nat} {l : List Nd} (h : NodesAt w w.heap.size A n l) (hb : Below w.heap.size w W) : NodesAt W W.heap.size A n l :=
  SlAt.below keeps_nd (SlAt.below keeps_nd h hb (Nat.le_refl _)) (Below.refl W.heap.size _) hb.size
theorem edges_get {w : World} {B : Nat} {A : Option Addr} {n : Nat} {l : List Eg} (h : EdgesAt w B A n l) {i : Nat} (hi : i < n) :
    ∃ b o q, A = some ⟨b, o, none⟩ ∧ b < B ∧ l[i]? = some q ∧ q.c ≤ 255 ∧ ∀ W, Below B w W → EdAt W b (o + i * 2) q := by
  obtain ⟨b, o, q, h1, h2, h3, h4⟩ := SlAt.get keeps_ed h hi
  exact ⟨b, o, q, h1, h2, h3, (h4 w (Below.refl _ _)).2, fun W hW => (h4 W hW).1⟩
theorem nodes_get {w : World} {B : Nat} {A : Option Addr} {n : Nat} {l : List Nd} (h : NodesAt w B A n l) {i : Nat} (hi : i < n) :
    ∃ b o q, A = some ⟨b, o, none⟩ ∧ b < B ∧ l[i]? = some q ∧ ∃ A2 cap, ∀ W, Below B w W → W.cell? ⟨b, o + i * 2, none⟩ = some (.slice A2 q.es.length cap) ∧ W.cell? ⟨b, o + i * 2 + 1, none⟩ = some (.int .i64 q.word) ∧ EdgesAt W B A2 q.es.length q.es := by
  obtain ⟨b, o, q, h1, h2, h3, h4⟩ := SlAt.get keeps_nd h hi
  obtain ⟨A2, cap, k1, k2, k3⟩ := h4 w (Below.refl _ _)
  exact ⟨b, o, q, h1, h2, h3, A2, cap, fun W hW => ⟨(hW.cell h2).trans k1, (hW.cell h2).trans k2, SlAt.below keeps_ed k3 hW (Nat.le_refl _)⟩⟩
def hasE (l : List Eg) (c : Nat) : Bool := match l[cntE l c]? with
  | some e => e.c == c
  | none => false
def cmpN (a b : Nat) : Int := if a < b then -1 else if b < a then 1 else 0
theorem cntE_is {l : List Eg} {c i : Nat} (hr : Rise l) (hi : i ≤ l.length) (h1 : ∀ t e, t < i → l[t]? = some e → e.c < c) (h2 : ∀ t e, i ≤ t → l[t]? = some e → c ≤ e.c) : cntE l c = i := by
  rcases Nat.lt_trichotomy (cntE l c) i with h | h | h
  · have hg := List.getElem?_eq_getElem (l := l) (i := cntE l c) (by omega)
    have := h1 _ _ h hg
    have := cntE_high hr (Nat.le_refl _) hg
    omega
  · exact h
  · have hlt : i < l.length := by have := cntE_le l c; omega
    have hg := List.getElem?_eq_getElem hlt
    have := h2 _ _ (Nat.le_refl _) hg
    have := cntE_low h hg
    omega
end Gno
namespace Go.Proofs.Ytggepbkhhnhnkaa
open Go.RowKit Gno
theorem isNaN_any (a : Nat) (w : World) : Calls Try.prog 34 #[.int .u8 a] w fun e w' => e = .returned (.bool false) ∧ w = w' := by
  go_enter Try.func34, Try.ntmps34
  go_wp2
  go_ret
  exact ⟨rfl, rfl⟩
set_option maxHeartbeats 4000000 in
theorem compare_any (a b : Nat) (w : World) : Calls Try.prog 30 #[.int .u8 a, .int .u8 b] w fun e w' => e = .returned (.int .i64 (cmpN a b)) ∧ w = w' := by
  have C := Lib.hid (fun a w => isNaN_any a w)
  unfold cmpN
  by_cases h1 : a < b
  · rw [if_pos h1]
    go_enter Try.func30, Try.ntmps30
    go_wp2_with (go_at_call 34; (with_reducible refine (C.out _ _).mono ?_); rintro e w1 ⟨rfl, rfl⟩)
    go_ret
    exact ⟨rfl, rfl⟩
  · rw [if_neg h1]
    by_cases h2 : b < a
    · rw [if_pos h2]
      go_enter Try.func30, Try.ntmps30
      go_wp2_with (go_at_call 34; (with_reducible refine (C.out _ _).mono ?_); rintro e w1 ⟨rfl, rfl⟩)
      go_ret
      exact ⟨rfl, rfl⟩
    · rw [if_neg h2]
      go_enter Try.func30, Try.ntmps30
      go_wp2_with (go_at_call 34; (with_reducible refine (C.out _ _).mono ?_); rintro e w1 ⟨rfl, rfl⟩)
      go_ret
      exact ⟨rfl, rfl⟩
set_option maxHeartbeats 4000000 in
theorem findC_any (e : Eg) (c : Nat) (w : World) : Calls Try.prog 29 #[.agg #[.int .u8 e.c, .int .i64 e.to], .int .u8 c] w fun r w' => r = .returned (.int .i64 (cmpN e.c c)) ∧ Below w.heap.size w w' := by
  have C := Lib.hid (fun a b w => compare_any a b w)
  obtain ⟨X, hX⟩ : ∃ X, X = cmpN e.c c := ⟨_, rfl⟩
  have C2 : Hid (∀ w, Calls Try.prog 30 #[.int .u8 e.c, .int .u8 c] w fun r w' => r = .returned (.int .i64 X) ∧ w = w') := Lib.hid fun w => by rw [hX]; exact C.out _ _ _
  rw [← hX]
  clear hX C
  go_enter Try.func29, Try.ntmps29
  go_wp2_with (go_at_call 30; (with_reducible refine (C2.out _).mono ?_); rintro e w1 ⟨rfl, rfl⟩)
  go_ret
  exact ⟨rfl, (Below.refl _ _).alloc (Nat.le_refl _) _⟩
theorem cmpN_low {a b : Nat} (h : a < b) : cmpN a b = -1 := by unfold cmpN; rw [if_pos h]
theorem cmpN_eq {a b : Nat} (h : a = b) : cmpN a b = 0 := by unfold cmpN; rw [if_neg (by omega), if_neg (by omega)]
theorem cmpN_high {a b : Nat} (h : b < a) : cmpN a b = 1 := by unfold cmpN; rw [if_neg (by omega), if_pos h]
theorem mid_wrap (lo hi : Nat) (h : lo ≤ hi) (h2 : hi ≤ 9223372036854775807) : wrap64 (IntKind.u64.wrap (wrap64 ((lo : Int) + (hi : Int))) / 2) = (((lo + hi) / 2 : Nat) : Int) := by
  unfold wrap64
  rw [IntKind.wrap_u64]
  omega
set_option maxHeartbeats 4000000 in
theorem search_any (A : Option Addr) (n cap : Nat) (l : List Eg) (c : Nat) (w : World) (hE : EdgesAt w w.heap.size A n l) (hr : Rise l) :
    Calls Try.prog 28 #[.slice A n cap, .int .u8 c, .func (.func 29) #[] #[]] w fun e w' => e = .returned (.tuple #[.int .i64 (cntE l c), .bool (hasE l c)]) ∧ Below w.heap.size w w' := by
  have hn : n ≤ 9223372036854775807 := hE.2.1
  have HE := Lib.hid hE
  have HR := Lib.hid hr
  have C := Lib.hid (fun e w => findC_any e c w)
  have eg : ∀ args w, (callFunc 29 args).run Try.prog w = .ok (.enter 29 args) w := fun _ _ => rfl
  obtain ⟨N, hN⟩ : ∃ N, N = cntE l c := ⟨_, rfl⟩
  obtain ⟨T, hT⟩ : ∃ T, T = hasE l c := ⟨_, rfl⟩
  have HN := Lib.hid hN
  have HT := Lib.hid hT
  rw [← hN, ← hT]
  clear hE hr hN hT
  go_enter Try.func28, Try.ntmps28
  go_wp2
  go_loopw [9, 10] (fun s9 s10 wr => ∃ lo hi : Nat, s9 = .int .i64 lo ∧ s10 = .int .i64 hi ∧ lo ≤ hi ∧ hi ≤ n ∧ Below w.heap.size w wr ∧ Hid ((∀ t e, t < lo → l[t]? = some e → e.c < c) ∧ (∀ t e, hi ≤ t → l[t]? = some e → c ≤ e.c))) (fun s9 s10 _ => (intOf s10 - intOf s9).toNat)
  case atStart => exact ⟨0, n, rfl, rfl, Nat.zero_le _, Nat.le_refl _, Below.refl _ _, Lib.hid ⟨fun t e h => absurd h (by omega), fun t e h h2 => by
      have := (List.getElem?_eq_some_iff.1 h2).1
      have := HE.out.1
      omega⟩⟩
  case round =>
    obtain ⟨lo, hi, rfl, rfl, hlh, hin, hb, hI⟩ := hrel
    have hz := hb.size
    by_cases hlt : lo < hi
    · have hm0 := mid_wrap lo hi hlh (by omega)
      obtain ⟨m, hm⟩ : ∃ m, m = (lo + hi) / 2 := ⟨_, rfl⟩
      have hmn : m < n := by omega
      have hml : lo ≤ m := by omega
      have hmh : m < hi := by omega
      obtain ⟨b, o, q, hA, hbB, hq, hqc, hqq⟩ := edges_get HE.out hmn
      subst hA
      rw [← hm] at hm0
      clear hm
      obtain ⟨e0, e1⟩ := hqq _ hb
      have HQ := Lib.hid hq
      clear hq hqq
      by_cases hlow : q.c < c
      · have D : Hid (∀ w, Calls Try.prog 29 #[.agg #[.int .u8 q.c, .int .i64 q.to], .int .u8 c] w fun r w' => r = .returned (.int .i64 (-1)) ∧ Below w.heap.size w w') := Lib.hid fun w => by have := C.out q w; rwa [cmpN_low hlow] at this
        have hI2 : Hid ((∀ t e, t < m + 1 → l[t]? = some e → e.c < c) ∧ (∀ t e, hi ≤ t → l[t]? = some e → c ≤ e.c)) := Lib.hid ⟨fun t e ht he => by
          have h1 := (List.getElem?_eq_some_iff.1 HQ.out).1
          have h2 := (List.getElem?_eq_some_iff.1 HQ.out).2
          have k1 := (List.getElem?_eq_some_iff.1 he).1
          have k2 := (List.getElem?_eq_some_iff.1 he).2
          by_cases e1 : t = m
          · subst e1; rw [HQ.out] at he; injection he with he; rw [← he]; exact hlow
          · have := List.pairwise_iff_getElem.1 HR.out t (m) k1 h1 (by clear hm0; omega)
            rw [h2, k2] at this
            clear hm0; omega, hI.out.2⟩
        clear hI
        go_wp2_with (go_at_fn 29; (with_reducible refine (D.out _).mono ?_); rintro e w4 ⟨rfl, hb4⟩; have hb5 := hb.trans (hb4.mono hb.size); clear hb4)
        go_roundw
        case rel => clear hm0; exact ⟨m + 1, hi, by go_num, rfl, by omega, hin, hb5, hI2⟩
        case measure => clear hm0; simp [intOf]; omega
      · have hI2 : Hid ((∀ t e, t < lo → l[t]? = some e → e.c < c) ∧ (∀ t e, m ≤ t → l[t]? = some e → c ≤ e.c)) := Lib.hid ⟨hI.out.1, fun t e ht he => by
          have h1 := (List.getElem?_eq_some_iff.1 HQ.out).1
          have h2 := (List.getElem?_eq_some_iff.1 HQ.out).2
          have k1 := (List.getElem?_eq_some_iff.1 he).1
          have k2 := (List.getElem?_eq_some_iff.1 he).2
          by_cases e1 : t = m
          · subst e1; rw [HQ.out] at he; injection he with he; rw [← he]; clear hm0; omega
          · have := List.pairwise_iff_getElem.1 HR.out (m) t h1 k1 (by clear hm0; omega)
            rw [h2, k2] at this
            clear hm0; omega⟩
        have hx : 0 ≤ cmpN q.c c := by unfold cmpN; rw [if_neg hlow]; split <;> omega
        obtain ⟨X, hX⟩ : ∃ X, X = cmpN q.c c := ⟨_, rfl⟩
        have D : Hid (∀ w, Calls Try.prog 29 #[.agg #[.int .u8 q.c, .int .i64 q.to], .int .u8 c] w fun r w' => r = .returned (.int .i64 X) ∧ Below w.heap.size w w') := Lib.hid fun w => by rw [hX]; exact C.out q w
        rw [← hX] at hx
        have hx1 : decide (X < 0) = false := decide_eq_false (by clear hm0; omega)
        clear hX hI hx
        go_wp2_with (go_at_fn 29; (with_reducible refine (D.out _).mono ?_); rintro e w4 ⟨rfl, hb4⟩; have hb5 := hb.trans (hb4.mono hb.size); clear hb4)
        go_roundw
        case rel => clear hm0; exact ⟨lo, m, rfl, rfl, by omega, by omega, hb5, hI2⟩
        case measure => clear hm0; simp [intOf]; omega
    · obtain rfl : hi = lo := by omega
      have hc : cntE l c = hi := cntE_is HR.out (by have := HE.out.1; omega) (fun t e h1 h2 => hI.out.1 t e h1 h2) (fun t e h1 h2 => hI.out.2 t e h1 h2)
      obtain rfl : N = hi := HN.out.trans hc
      by_cases hlt2 : N < n
      · obtain ⟨b, o, q, hA, hbB, hq, hqc, hqq⟩ := edges_get HE.out hlt2
        subst hA
        obtain ⟨e0, e1⟩ := hqq _ hb
        have hTq : T = (q.c == c) := by rw [HT.out]; unfold hasE; rw [← HN.out, hq]
        by_cases hqe : q.c = c
        · have D : Hid (∀ w, Calls Try.prog 29 #[.agg #[.int .u8 q.c, .int .i64 q.to], .int .u8 c] w fun r w' => r = .returned (.int .i64 0) ∧ Below w.heap.size w w') := Lib.hid fun w => by have := C.out q w; rwa [cmpN_eq hqe] at this
          have HT2 : Hid (T = true) := Lib.hid (by rw [hTq, beq_iff_eq]; exact hqe)
          clear hTq hq hqq hqe hc hI
          go_wp2_with (go_at_fn 29; (with_reducible refine (D.out _).mono ?_); rintro e w4 ⟨rfl, hb4⟩; have hb5 := hb.trans (hb4.mono hb.size); clear hb4)
          go_ret2
          exact ⟨by rw [HT2.out]; rfl, hb5⟩
        · have hx : ¬ cmpN q.c c = 0 := by unfold cmpN; split <;> (try split) <;> omega
          obtain ⟨X, hX⟩ : ∃ X, X = cmpN q.c c := ⟨_, rfl⟩
          have D : Hid (∀ w, Calls Try.prog 29 #[.agg #[.int .u8 q.c, .int .i64 q.to], .int .u8 c] w fun r w' => r = .returned (.int .i64 X) ∧ Below w.heap.size w w') := Lib.hid fun w => by rw [hX]; exact C.out q w
          rw [← hX] at hx
          have hx1 : (X == 0) = false := by rw [beq_eq_false_iff_ne]; exact hx
          have HT2 : Hid (T = false) := Lib.hid (by rw [hTq, beq_eq_false_iff_ne]; exact hqe)
          clear hTq hq hqq hqe hc hI hX hx
          go_wp2_with (go_at_fn 29; (with_reducible refine (D.out _).mono ?_); rintro e w4 ⟨rfl, hb4⟩; have hb5 := hb.trans (hb4.mono hb.size); clear hb4)
          go_ret2
          exact ⟨by rw [HT2.out]; rfl, hb5⟩
      · have HT2 : Hid (T = false) := Lib.hid (by
          rw [HT.out]; unfold hasE; rw [← HN.out, List.getElem?_eq_none (by have := HE.out.1; omega)])
        clear hc hI
        go_wp2
        go_ret2
        exact ⟨by rw [HT2.out]; rfl, hb⟩
set_option maxHeartbeats 4000000 in
/-- find: where the edge stands, or belongs. -/
theorem findP_any (x : Nd) (A : Option Addr) (cap : Nat) (c : Nat) (w : World) (hE : EdgesAt w w.heap.size A x.es.length x.es) (hr : Rise x.es) :
    Calls Try.prog 22 #[.agg #[.slice A x.es.length cap, .int .i64 x.word], .int .u8 c] w fun e w' => e = .returned (.tuple #[.int .i64 (cntE x.es c), .bool (hasE x.es c)]) ∧ Below w.heap.size w w' := by
  have C : Hid (∀ W, Below w.heap.size w W → Calls Try.prog 28 #[.slice A x.es.length cap, .int .u8 c, .func (.func 29) #[] #[]] W fun e w' => e = .returned (.tuple #[.int .i64 (cntE x.es c), .bool (hasE x.es c)]) ∧ Below W.heap.size W w') := Lib.hid fun W hW => search_any A _ cap x.es c W (EdgesAt.next hE hW) hr
  have hb0 : Below w.heap.size w (w.alloc (.cells #[.slice A x.es.length cap, .int .i64 x.word] 49)) := (Below.refl _ _).alloc (Nat.le_refl _) _
  obtain ⟨n, hn⟩ : ∃ n, n = x.es.length := ⟨_, rfl⟩
  obtain ⟨N, hN⟩ : ∃ N, N = cntE x.es c := ⟨_, rfl⟩
  obtain ⟨T, hT⟩ : ∃ T, T = hasE x.es c := ⟨_, rfl⟩
  rw [← hn] at hb0
  rw [← hn, ← hN, ← hT] at C
  rw [← hn, ← hN, ← hT]
  clear hn hN hT hE hr
  go_enter Try.func22, Try.ntmps22
  go_wp2_with (go_at_call 28; (with_reducible refine (C.out _ hb0).mono ?_); rintro e w1 ⟨rfl, hb1⟩)
  go_ret2
  exact ⟨rfl, hb0.trans (hb1.mono hb0.size)⟩
end Go.Proofs.Ytggepbkhhnhnkaa
