/- An argument of type []Node, and of type []string, opened. -/
import Derived.Deep.LoopGhost
import Derived.Deep.QuietTactic
import Derived.BigQuiet
import Derived.Deep.Slices
import Derived.Test.YtbbbeldbhlehnaaGreatDoorMUTrB20
import Derived.Test.YtbbbeldbhlehnaaGreatDoorMUTrB22
import Derived.Test.YtbbbeldbhlehnaaGreatDoorMUTrB24
import Derived.Test.YtbbbeldbhlehnaaGreatDoorMUTrB26
set_option linter.unusedSimpArgs false
set_option linter.unusedVariables false
section
set_option maxRecDepth 100000
namespace Gno
open Go Go.RowKit Go.Proofs.YtbbbeldbhlehnaaGreatDoor
def EdAt (w : World) (b o : Nat) (e : Eg) : Prop := w.cell? ⟨b, o, none⟩ = some (.int .u8 e.c) ∧ w.cell? ⟨b, o + 1, none⟩ = some (.int .i64 e.to)
def EdgesAt : World → Nat → Option Addr → Nat → List Eg → Prop := SlAt 2 (fun w B b o e => EdAt w b o e ∧ e.c ≤ 255)
def NdAt (w : World) (B b o : Nat) (x : Nd) : Prop := ∃ A cap, w.cell? ⟨b, o, none⟩ = some (.slice A x.es.length cap) ∧ w.cell? ⟨b, o + 1, none⟩ = some (.int .i64 x.word) ∧ EdgesAt w B A x.es.length x.es
def NodesAt : World → Nat → Option Addr → Nat → List Nd → Prop := SlAt 2 NdAt
theorem EdAt.below {w w' : World} {B b o : Nat} {x : Eg} (h : EdAt w b o x) (hb : Below B w w') (hB : b < B) : EdAt w' b o x := ⟨(hb.cell hB).trans h.1, (hb.cell hB).trans h.2⟩
theorem keeps_ed : Keeps (fun w B b o e => EdAt w b o e ∧ e.c ≤ 255) := fun _ _ _ _ _ _ _ hb hB hbB h => ⟨h.1.below hb (by omega), h.2⟩
theorem keeps_nd : Keeps NdAt := fun _ _ _ _ _ _ _ hb hB hbB h => by
 obtain ⟨A, cap, h1, h2, h3⟩ := h
 exact ⟨A, cap, (hb.cell (Nat.lt_of_lt_of_le hbB hB)).trans h1, (hb.cell (Nat.lt_of_lt_of_le hbB hB)).trans h2, SlAt.below keeps_ed h3 hb hB⟩
theorem EdgesAt.next {w W : World} {A : Option Addr} {n : Nat} {l : List Eg} (h : EdgesAt w w.heap.size A n l) (hb : Below w.heap.size w W) : EdgesAt W W.heap.size A n l :=
 SlAt.below keeps_ed (SlAt.below keeps_ed h hb (Nat.le_refl _)) (Below.refl W.heap.size _) hb.size
theorem NodesAt.next {w W : World} {A : Option Addr} {n : Nat} {l : List Nd} (h : NodesAt w w.heap.size A n l) (hb : Below w.heap.size w W) : NodesAt W W.heap.size A n l :=
 SlAt.below keeps_nd (SlAt.below keeps_nd h hb (Nat.le_refl _)) (Below.refl W.heap.size _) hb.size
theorem edges_get {w : World} {B : Nat} {A : Option Addr} {n : Nat} {l : List Eg} (h : EdgesAt w B A n l) {i : Nat} (hi : i < n) :
 ∃ b o q, A = some ⟨b, o, none⟩ ∧ b < B ∧ l[i]? = some q ∧ q.c ≤ 255 ∧ ∀ W, Below B w W → EdAt W b (o + i * 2) q := by
 obtain ⟨b, o, q, h1, h2, h3, h4⟩ := SlAt.get keeps_ed h hi
 exact ⟨b, o, q, h1, h2, h3, (h4 w (Below.refl _ _)).2, fun W hW => (h4 W hW).1⟩
theorem nodes_get {w : World} {B : Nat} {A : Option Addr} {n : Nat} {l : List Nd} (h : NodesAt w B A n l) {i : Nat} (hi : i < n) :
 ∃ b o q, A = some ⟨b, o, none⟩ ∧ b < B ∧ l[i]? = some q ∧ ∃ A2 cap, ∀ W, Below B w W → W.cell? ⟨b, o + i * 2, none⟩ = some (.slice A2 q.es.length cap) ∧ W.cell? ⟨b, o + i * 2 + 1, none⟩ = some (.int .i64 q.word) ∧ EdgesAt W B A2 q.es.length q.es := by
 obtain ⟨b, o, q, h1, h2, h3, h4⟩ := SlAt.get keeps_nd h hi
 obtain ⟨A2, cap, k1, k2, k3⟩ := h4 w (Below.refl _ _)
 exact ⟨b, o, q, h1, h2, h3, A2, cap, fun W hW => ⟨(hW.cell h2).trans k1, (hW.cell h2).trans k2, SlAt.below keeps_ed k3 hW (Nat.le_refl _)⟩⟩
def hasE (l : List Eg) (c : Nat) : Bool := match l[cntE l c]? with
 | some e => e.c == c
 | none => false
def cmpT (a b : Nat) : Int := if a < b then -1 else if b < a then 1 else 0
theorem cntE_is {l : List Eg} {c i : Nat} (hr : Rise l) (hi : i ≤ l.length) (h1 : ∀ t e, t < i → l[t]? = some e → e.c < c) (h2 : ∀ t e, i ≤ t → l[t]? = some e → c ≤ e.c) : cntE l c = i := by
 rcases Nat.lt_trichotomy (cntE l c) i with h | h | h
 ·have hg := List.getElem?_eq_getElem (l := l) (i := cntE l c) (by omega)
  have := h1 _ _ h hg
  have := cntE_high hr (Nat.le_refl _) hg
  omega
 ·exact h
 ·have hlt : i < l.length := by have := cntE_le l c; omega
  have hg := List.getElem?_eq_getElem hlt
  have := h2 _ _ (Nat.le_refl _) hg
  have := cntE_low h hg
  omega
end Gno
namespace Go.Proofs.YtbbbeldbhlehnaaGreatDoor
open Go.RowKit Gno
theorem isNaN_any (a : Nat) (w : World) : Calls Tryz.prog 200 #[.int .u8 a] w fun e w' => e = .returned (.bool false) ∧ w = w' := by
 go_enter Tryz.func200, Tryz.ntmps200
 go_wp2
 go_ret
 exact ⟨rfl, rfl⟩
set_option maxHeartbeats 4000000 in
theorem compare_any (a b : Nat) (w : World) : Calls Tryz.prog 144 #[.int .u8 a, .int .u8 b] w fun e w' => e = .returned (.int .i64 (cmpT a b)) ∧ w = w' := by
 have C := Lib.hid (fun a w => isNaN_any a w)
 unfold cmpT
 by_cases h1 : a < b
 ·rw [if_pos h1]
  go_enter Tryz.func144, Tryz.ntmps144
  go_wp2_with (go_at_call 200; (with_reducible refine (C.out _ _).mono ?_); rintro e w1 ⟨rfl, rfl⟩)
  go_ret
  exact ⟨rfl, rfl⟩
 ·rw [if_neg h1]
  by_cases h2 : b < a
  ·rw [if_pos h2]
   go_enter Tryz.func144, Tryz.ntmps144
   go_wp2_with (go_at_call 200; (with_reducible refine (C.out _ _).mono ?_); rintro e w1 ⟨rfl, rfl⟩)
   go_ret
   exact ⟨rfl, rfl⟩
  ·rw [if_neg h2]
   go_enter Tryz.func144, Tryz.ntmps144
   go_wp2_with (go_at_call 200; (with_reducible refine (C.out _ _).mono ?_); rintro e w1 ⟨rfl, rfl⟩)
   go_ret
   exact ⟨rfl, rfl⟩
set_option maxHeartbeats 4000000 in
theorem findC_any (e : Eg) (c : Nat) (w : World) : Calls Tryz.prog 143 #[.agg #[.int .u8 e.c, .int .i64 e.to], .int .u8 c] w fun r w' => r = .returned (.int .i64 (cmpT e.c c)) ∧ Below w.heap.size w w' := by
 have C := Lib.hid (fun a b w => compare_any a b w)
 obtain ⟨X, hX⟩ : ∃ X, X = cmpT e.c c := ⟨_, rfl⟩
 have C2 : Hid (∀ w, Calls Tryz.prog 144 #[.int .u8 e.c, .int .u8 c] w fun r w' => r = .returned (.int .i64 X) ∧ w = w') := Lib.hid fun w => by rw [hX]; exact C.out _ _ _
 rw [← hX]
 clear hX C
 go_enter Tryz.func143, Tryz.ntmps143
 go_wp2_with (go_at_call 144; (with_reducible refine (C2.out _).mono ?_); rintro e w1 ⟨rfl, rfl⟩)
 go_ret
 exact ⟨rfl, (Below.refl _ _).alloc (Nat.le_refl _) _⟩
theorem cmpN_low {a b : Nat} (h : a < b) : cmpT a b = -1 := by unfold cmpT; rw [if_pos h]
theorem cmpN_eq {a b : Nat} (h : a = b) : cmpT a b = 0 := by unfold cmpT; rw [if_neg (by omega), if_neg (by omega)]
theorem mid_wrap (lo hi : Nat) (h : lo ≤ hi) (h2 : hi ≤ 9223372036854775807) : wrap64 (IntKind.u64.wrap (wrap64 ((lo : Int) + (hi : Int))) / 2) = (((lo + hi) / 2 : Nat) : Int) := by
 unfold wrap64
 rw [IntKind.wrap_u64]
 omega
set_option maxHeartbeats 4000000 in
theorem search_any (A : Option Addr) (n cap : Nat) (l : List Eg) (c : Nat) (w : World) (hE : EdgesAt w w.heap.size A n l) (hr : Rise l) :
 Calls Tryz.prog 142 #[.slice A n cap, .int .u8 c, .func (.func 143) #[] #[]] w fun e w' => e = .returned (.tuple #[.int .i64 (cntE l c), .bool (hasE l c)]) ∧ Below w.heap.size w w' := by
 have hn : n ≤ 9223372036854775807 := hE.2.1
 have HE := Lib.hid hE
 have HR := Lib.hid hr
 have C := Lib.hid (fun e w => findC_any e c w)
 have eg : ∀ args w, (callFunc 143 args).run Tryz.prog w = .ok (.enter 143 args) w := fun _ _ => rfl
 obtain ⟨N, hN⟩ : ∃ N, N = cntE l c := ⟨_, rfl⟩
 obtain ⟨T, hT⟩ : ∃ T, T = hasE l c := ⟨_, rfl⟩
 have HN := Lib.hid hN
 have HT := Lib.hid hT
 rw [← hN, ← hT]
 clear hE hr hN hT
 go_enter Tryz.func142, Tryz.ntmps142
 go_wp2
 go_loopw [9, 10] (fun s9 s10 wr => ∃ lo hi : Nat, s9 = .int .i64 lo ∧ s10 = .int .i64 hi ∧ lo ≤ hi ∧ hi ≤ n ∧ Below w.heap.size w wr ∧ Hid ((∀ t e, t < lo → l[t]? = some e → e.c < c) ∧ (∀ t e, hi ≤ t → l[t]? = some e → c ≤ e.c))) (fun s9 s10 _ => (intOf s10 - intOf s9).toNat)
 case atStart => exact ⟨0, n, rfl, rfl, Nat.zero_le _, Nat.le_refl _, Below.refl _ _, Lib.hid ⟨fun t e h => absurd h (by omega), fun t e h h2 => by
  have := (List.getElem?_eq_some_iff.1 h2).1
  have := HE.out.1
  omega⟩⟩
 case round =>
  obtain ⟨lo, hi, rfl, rfl, hlh, hin, hb, hI⟩ := hrel
  have hz := hb.size
  by_cases hlt : lo < hi
  ·have hm0 := mid_wrap lo hi hlh (by omega)
   obtain ⟨m, hm⟩ : ∃ m, m = (lo + hi) / 2 := ⟨_, rfl⟩
   have hmn : m < n := by omega
   have hml : lo ≤ m := by omega
   have hmh : m < hi := by omega
   obtain ⟨b, o, q, hA, hbB, hq, hqc, hqq⟩ := edges_get HE.out hmn
   subst hA
   rw [← hm] at hm0
   clear hm
   obtain ⟨e0, e1⟩ := hqq _ hb
   have HQ := Lib.hid hq
   clear hq hqq
   by_cases hlow : q.c < c
   ·have D : Hid (∀ w, Calls Tryz.prog 143 #[.agg #[.int .u8 q.c, .int .i64 q.to], .int .u8 c] w fun r w' => r = .returned (.int .i64 (-1)) ∧ Below w.heap.size w w') := Lib.hid fun w => by have := C.out q w; rwa [cmpN_low hlow] at this
    have hI2 : Hid ((∀ t e, t < m + 1 → l[t]? = some e → e.c < c) ∧ (∀ t e, hi ≤ t → l[t]? = some e → c ≤ e.c)) := Lib.hid ⟨fun t e ht he => by
     have h1 := (List.getElem?_eq_some_iff.1 HQ.out).1
     have h2 := (List.getElem?_eq_some_iff.1 HQ.out).2
     have k1 := (List.getElem?_eq_some_iff.1 he).1
     have k2 := (List.getElem?_eq_some_iff.1 he).2
     by_cases e1 : t = m
     ·subst e1; rw [HQ.out] at he; injection he with he; rw [← he]; exact hlow
     ·have := List.pairwise_iff_getElem.1 HR.out t (m) k1 h1 (by clear hm0; omega)
      rw [h2, k2] at this
      clear hm0; omega, hI.out.2⟩
    clear hI
    go_wp2_with (go_at_fn 143; (with_reducible refine (D.out _).mono ?_); rintro e w4 ⟨rfl, hb4⟩; have hb5 := hb.trans (hb4.mono hb.size); clear hb4)
    go_roundw
    case rel => clear hm0; exact ⟨m + 1, hi, by go_num, rfl, by omega, hin, hb5, hI2⟩
    case measure => clear hm0; simp [intOf]; omega
   ·have hI2 : Hid ((∀ t e, t < lo → l[t]? = some e → e.c < c) ∧ (∀ t e, m ≤ t → l[t]? = some e → c ≤ e.c)) := Lib.hid ⟨hI.out.1, fun t e ht he => by
     have h1 := (List.getElem?_eq_some_iff.1 HQ.out).1
     have h2 := (List.getElem?_eq_some_iff.1 HQ.out).2
     have k1 := (List.getElem?_eq_some_iff.1 he).1
     have k2 := (List.getElem?_eq_some_iff.1 he).2
     by_cases e1 : t = m
     ·subst e1; rw [HQ.out] at he; injection he with he; rw [← he]; clear hm0; omega
     ·have := List.pairwise_iff_getElem.1 HR.out (m) t h1 k1 (by clear hm0; omega)
      rw [h2, k2] at this
      clear hm0; omega⟩
    have hx : 0 ≤ cmpT q.c c := by unfold cmpT; rw [if_neg hlow]; split <;> omega
    obtain ⟨X, hX⟩ : ∃ X, X = cmpT q.c c := ⟨_, rfl⟩
    have D : Hid (∀ w, Calls Tryz.prog 143 #[.agg #[.int .u8 q.c, .int .i64 q.to], .int .u8 c] w fun r w' => r = .returned (.int .i64 X) ∧ Below w.heap.size w w') := Lib.hid fun w => by rw [hX]; exact C.out q w
    rw [← hX] at hx
    have hx1 : decide (X < 0) = false := decide_eq_false (by clear hm0; omega)
    clear hX hI hx
    go_wp2_with (go_at_fn 143; (with_reducible refine (D.out _).mono ?_); rintro e w4 ⟨rfl, hb4⟩; have hb5 := hb.trans (hb4.mono hb.size); clear hb4)
    go_roundw
    case rel => clear hm0; exact ⟨lo, m, rfl, rfl, by omega, by omega, hb5, hI2⟩
    case measure => clear hm0; simp [intOf]; omega
  ·obtain rfl : hi = lo := by omega
   have hc : cntE l c = hi := cntE_is HR.out (by have := HE.out.1; omega) (fun t e h1 h2 => hI.out.1 t e h1 h2) (fun t e h1 h2 => hI.out.2 t e h1 h2)
   obtain rfl : N = hi := HN.out.trans hc
   by_cases hlt2 : N < n
   ·obtain ⟨b, o, q, hA, hbB, hq, hqc, hqq⟩ := edges_get HE.out hlt2
    subst hA
    obtain ⟨e0, e1⟩ := hqq _ hb
    have hTq : T = (q.c == c) := by rw [HT.out]; unfold hasE; rw [← HN.out, hq]
    by_cases hqe : q.c = c
    ·have D : Hid (∀ w, Calls Tryz.prog 143 #[.agg #[.int .u8 q.c, .int .i64 q.to], .int .u8 c] w fun r w' => r = .returned (.int .i64 0) ∧ Below w.heap.size w w') := Lib.hid fun w => by have := C.out q w; rwa [cmpN_eq hqe] at this
     have HT2 : Hid (T = true) := Lib.hid (by rw [hTq, beq_iff_eq]; exact hqe)
     clear hTq hq hqq hqe hc hI
     go_wp2_with (go_at_fn 143; (with_reducible refine (D.out _).mono ?_); rintro e w4 ⟨rfl, hb4⟩; have hb5 := hb.trans (hb4.mono hb.size); clear hb4)
     go_ret2
     exact ⟨by rw [HT2.out]; rfl, hb5⟩
    ·have hx : ¬ cmpT q.c c = 0 := by unfold cmpT; split <;> (try split) <;> omega
     obtain ⟨X, hX⟩ : ∃ X, X = cmpT q.c c := ⟨_, rfl⟩
     have D : Hid (∀ w, Calls Tryz.prog 143 #[.agg #[.int .u8 q.c, .int .i64 q.to], .int .u8 c] w fun r w' => r = .returned (.int .i64 X) ∧ Below w.heap.size w w') := Lib.hid fun w => by rw [hX]; exact C.out q w
     rw [← hX] at hx
     have hx1 : (X == 0) = false := by rw [beq_eq_false_iff_ne]; exact hx
     have HT2 : Hid (T = false) := Lib.hid (by rw [hTq, beq_eq_false_iff_ne]; exact hqe)
     clear hTq hq hqq hqe hc hI hX hx
     go_wp2_with (go_at_fn 143; (with_reducible refine (D.out _).mono ?_); rintro e w4 ⟨rfl, hb4⟩; have hb5 := hb.trans (hb4.mono hb.size); clear hb4)
     go_ret2
     exact ⟨by rw [HT2.out]; rfl, hb5⟩
   ·have HT2 : Hid (T = false) := Lib.hid (by
     rw [HT.out]; unfold hasE; rw [← HN.out, List.getElem?_eq_none (by have := HE.out.1; omega)])
    clear hc hI
    go_wp2
    go_ret2
    exact ⟨by rw [HT2.out]; rfl, hb⟩
set_option maxHeartbeats 4000000 in
theorem findP_any (x : Nd) (A : Option Addr) (cap : Nat) (c : Nat) (w : World) (hE : EdgesAt w w.heap.size A x.es.length x.es) (hr : Rise x.es) :
 Calls Tryz.prog 65 #[.agg #[.slice A x.es.length cap, .int .i64 x.word], .int .u8 c] w fun e w' => e = .returned (.tuple #[.int .i64 (cntE x.es c), .bool (hasE x.es c)]) ∧ Below w.heap.size w w' := by
 have C : Hid (∀ W, Below w.heap.size w W → Calls Tryz.prog 142 #[.slice A x.es.length cap, .int .u8 c, .func (.func 143) #[] #[]] W fun e w' => e = .returned (.tuple #[.int .i64 (cntE x.es c), .bool (hasE x.es c)]) ∧ Below W.heap.size W w') := Lib.hid fun W hW => search_any A _ cap x.es c W (EdgesAt.next hE hW) hr
 have hb0 : Below w.heap.size w (w.alloc (.cells #[.slice A x.es.length cap, .int .i64 x.word] 70)) := (Below.refl _ _).alloc (Nat.le_refl _) _
 obtain ⟨n, hn⟩ : ∃ n, n = x.es.length := ⟨_, rfl⟩
 obtain ⟨N, hN⟩ : ∃ N, N = cntE x.es c := ⟨_, rfl⟩
 obtain ⟨T, hT⟩ : ∃ T, T = hasE x.es c := ⟨_, rfl⟩
 rw [← hn] at hb0
 rw [← hn, ← hN, ← hT] at C
 rw [← hn, ← hN, ← hT]
 clear hn hN hT hE hr
 go_enter Tryz.func65, Tryz.ntmps65
 go_wp2_with (go_at_call 142; (with_reducible refine (C.out _ hb0).mono ?_); rintro e w1 ⟨rfl, hb1⟩)
 go_ret2
 exact ⟨rfl, hb0.trans (hb1.mono hb0.size)⟩
end Go.Proofs.YtbbbeldbhlehnaaGreatDoor
end
section
set_option maxRecDepth 100000
namespace Gno
open Go
theorem drop_at {α : Type} {l : List α} {i : Nat} {x : α} (h : l[i]? = some x) : l.drop i = x :: l.drop (i + 1) := by
 have hl := (List.getElem?_eq_some_iff.1 h).1
 rw [List.drop_eq_getElem_cons hl, (List.getElem?_eq_some_iff.1 h).2]
theorem trie_start {t : List Nd} (h : 0 < t.length) : trieOk t = ndsOk t.length 0 (t.drop 0) := by
 unfold trieOk
 cases t with
 | nil => simp at h
 | cons a r => rfl
theorem nds_at {t : List Nd} {k : Nat} {q : Nd} (len : Int) (h : t[k]? = some q) : ndsOk len k (t.drop k) = (decide (-1 ≤ q.word) && (edOk k len (-1) (q.es.drop 0) && ndsOk len (k + 1) (t.drop (k + 1)))) := by
 rw [drop_at h, ndsOk, ndOk, List.drop_zero, Bool.and_assoc]
theorem ed_at {l : List Eg} {i : Nat} {x : Eg} (k len last : Int) (h : l[i]? = some x) : edOk k len last (l.drop i) = (decide (k < x.to) && decide (x.to < len) && decide (last < (x.c : Int)) && edOk k len x.c (l.drop (i + 1))) := by
 rw [drop_at h, edOk]
theorem ed_end {l : List Eg} {i : Nat} (k len last : Int) (h : l.length ≤ i) : edOk k len last (l.drop i) = true := by rw [List.drop_eq_nil_of_le h]; rfl
theorem nds_end {t : List Nd} {k : Nat} (len : Int) (h : t.length ≤ k) : ndsOk len k (t.drop k) = true := by rw [List.drop_eq_nil_of_le h]; rfl
theorem trieE_no {t : List Nd} (h : trieOk t = false) : trieE t = 1 := by unfold trieE; rw [h]; rfl
theorem trieE_yes {t : List Nd} (h : trieOk t = true) : trieE t = 0 := by unfold trieE; rw [if_pos h]
theorem trieOk_nil {t : List Nd} (h : t.length = 0) : trieOk t = false := by
 cases t with
 | nil => rfl
 | cons a r => simp at h
end Gno
namespace Go.Proofs.YtbbbeldbhlehnaaGreatDoor
open Go.RowKit Gno
theorem retO_i {m n : Int} (h : m = n) : Ending.returned (.int .i64 m) = .returned (.int .i64 n) := by rw [h]
set_option maxHeartbeats 4000000 in
theorem edgeOf_any (x : Nd) (A : Option Addr) (cap : Nat) (c : Nat) (w : World) (hE : EdgesAt w w.heap.size A x.es.length x.es) :
 Calls Tryz.prog 67 #[.agg #[.slice A x.es.length cap, .int .i64 x.word], .int .u8 c] w fun e w' => e = .returned (.int .i64 (edTo x.es c)) ∧ Below w.heap.size w w' := by
 have hb0 : Below w.heap.size w (w.alloc (.cells #[.slice A x.es.length cap, .int .i64 x.word] 70)) := (Below.refl _ _).alloc (Nat.le_refl _) _
 have hnl : x.es.length ≤ 9223372036854775807 := hE.2.1
 have HE := Lib.hid hE
 obtain ⟨l, hl⟩ : ∃ l, l = x.es := ⟨_, rfl⟩
 rw [← hl] at HE hb0 hnl ⊢
 obtain ⟨n, hn⟩ : ∃ n, n = l.length := ⟨_, rfl⟩
 rw [← hn] at HE hb0 hnl ⊢
 have HN := Lib.hid hn
 clear hl hn hE
 go_enter Tryz.func67, Tryz.ntmps67
 go_wp2
 go_loop [5] (fun s5 => ∃ i : Nat, i ≤ n ∧ s5 = .int .i64 i ∧ Hid (edTo (l.drop i) c = edTo l c)) (fun s5 => n - (intOf s5).toNat)
 case atStart => exact ⟨0, Nat.zero_le _, rfl, Lib.hid (by rw [List.drop_zero])⟩
 case round =>
  obtain ⟨i, hi, rfl, hI⟩ := hrel
  by_cases hlt : i < n
  ·obtain ⟨b, o, q, hA, hbB, hq, hqc, hqq⟩ := edges_get HE.out hlt
   subst hA
   obtain ⟨e0, e1⟩ := hqq _ hb0
   have hd := drop_at hq
   by_cases hc : q.c = c
   ·have HX : Hid (q.to = edTo l c) := Lib.hid (by rw [← hI.out, hd, edTo, if_pos hc])
    clear hq hqq hd hI
    go_wp2
    go_ret
    exact ⟨retO_i HX.out, hb0⟩
   ·have HX : Hid (edTo (l.drop (i + 1)) c = edTo l c) := Lib.hid (by rw [← hI.out, hd, edTo, if_neg hc])
    clear hq hqq hd hI
    go_wp2
    go_round
    case rel => exact ⟨i + 1, by omega, by go_num, HX⟩
    case measure => simp [intOf]; omega
  ·have HX : Hid (-1 = edTo l c) := Lib.hid (by rw [← hI.out, List.drop_eq_nil_of_le (by rw [← HN.out]; omega), edTo])
   clear hI
   go_wp2
   go_ret
   exact ⟨retO_i HX.out, hb0⟩
set_option maxHeartbeats 8000000 in
theorem trieCk_any (t : List Nd) (A : Option Addr) (n cap : Nat) (w : World) (hT : NodesAt w w.heap.size A n t) :
 Calls Tryz.prog 137 #[.slice A n cap] w fun e w' => e = .returned (.int .i64 (trieE t)) ∧ Below w.heap.size w w' := by
 have hnl : n ≤ 9223372036854775807 := hT.2.1
 have HT := Lib.hid hT
 have HN : Hid (t.length = n) := Lib.hid hT.1
 clear hT
 by_cases h0 : n = 0
 ·have HX : Hid (1 = trieE t) := Lib.hid (trieE_no (trieOk_nil (HN.out.trans h0))).symm
  subst h0
  go_enter Tryz.func137, Tryz.ntmps137
  go_wp2
  go_ret
  exact ⟨retO_i HX.out, Below.refl _ _⟩
 ·have hpos : 0 < n := by omega
  have hn0 : ((n : Int) == 0) = false := by rw [beq_eq_false_iff_ne]; omega
  clear h0
  go_enter Tryz.func137, Tryz.ntmps137
  go_wp2
  go_loopw [13] (fun s13 wr => ∃ k : Nat, k ≤ n ∧ s13 = .int .i64 k ∧ Hid (trieOk t = ndsOk n k (t.drop k)) ∧ Below w.heap.size w wr) (fun s13 _ => n - (intOf s13).toNat)
  case atStart => exact ⟨0, Nat.zero_le _, rfl, Lib.hid (by rw [trie_start (by rw [HN.out]; exact hpos), HN.out]), Below.refl _ _⟩
  case round =>
   obtain ⟨k, hk, rfl, hI, hb⟩ := hrel
   have hz := hb.size
   by_cases hlt : k < n
   ·obtain ⟨b, o, q, hA, hbB, hq, A2, cap2, hqq⟩ := nodes_get HT.out hlt
    subst hA
    obtain ⟨e0, e1, _⟩ := hqq _ hb
    have hE := (hqq w (Below.refl _ _)).2.2
    have HE := Lib.hid hE
    have HI2 : Hid (trieOk t = (decide (-1 ≤ q.word) && (edOk k n (-1) (q.es.drop 0) && ndsOk n (k + 1) (t.drop (k + 1))))) := Lib.hid (hI.out.trans (nds_at _ hq))
    have hml : q.es.length ≤ 9223372036854775807 := hE.2.1
    obtain ⟨m, hm⟩ : ∃ m, m = q.es.length := ⟨_, rfl⟩
    have HM := Lib.hid hm
    rw [← hm] at e0 hml HE
    clear hm hq hqq hI hE
    by_cases hw : q.word < -1
    ·have HX : Hid (1 = trieE t) := Lib.hid (trieE_no (by rw [HI2.out, decide_eq_false (by omega)]; rfl)).symm
     clear HI2
     go_wp2
     go_ret
     exact ⟨retO_i HX.out, hb.alloc hz _⟩
    ·have HI3 : Hid (trieOk t = (edOk k n (-1) (q.es.drop 0) && ndsOk n (k + 1) (t.drop (k + 1)))) := Lib.hid (HI2.out.trans (by rw [decide_eq_true (show -1 ≤ q.word by omega)]; rfl))
     have hb1 : Below w.heap.size w (wr.alloc (.cells #[.slice A2 m cap2, .int .i64 q.word] 70)) := hb.alloc hz _
     clear HI2
     obtain ⟨wo, hwo⟩ : ∃ wo : World, wo = wr := ⟨_, rfl⟩
     rw [← hwo] at hb hz e0 e1 hb1
     rw [← hwo]
     clear hwo
     go_wp2
     go_loopw [5, 24] (fun s5 s24 wr => ∃ (i : Nat) (last : Int), i ≤ m ∧ s24 = .int .i64 i ∧ s5 = .int .i64 last ∧ Hid (trieOk t = (edOk k n last (q.es.drop i) && ndsOk n (k + 1) (t.drop (k + 1)))) ∧ Below w.heap.size w wr) (fun _ s24 _ => m - (intOf s24).toNat)
     case atStart => exact ⟨0, -1, Nat.zero_le _, rfl, rfl, HI3, hb1⟩
     case round =>
      obtain ⟨i, last, hi, rfl, rfl, hJ, hb2⟩ := hrel
      have hz2 := hb2.size
      by_cases hit : i < m
      ·obtain ⟨b2, o2, x, hA2, hbB2, hx, hxc, hxx⟩ := edges_get HE.out hit
       subst hA2
       obtain ⟨f0, f1⟩ := hxx _ hb2
       have HJ := Lib.hid (hJ.out.trans (by rw [ed_at _ _ _ hx]))
       have hb3 : Below w.heap.size w (wr.alloc (.cells #[.int .u8 x.c, .int .i64 x.to] 72)) := hb2.alloc hz2 _
       clear hx hxx hJ
       by_cases g1 : x.to ≤ k
       ·have HX : Hid (1 = trieE t) := Lib.hid (trieE_no (by rw [HJ.out, decide_eq_false (show ¬ (k : Int) < x.to by omega)]; rfl)).symm
        clear HJ
        go_wp2
        go_ret
        exact ⟨retO_i HX.out, hb3⟩
       ·by_cases g2 : (n : Int) ≤ x.to
        ·have HX : Hid (1 = trieE t) := Lib.hid (trieE_no (by rw [HJ.out, decide_eq_false (show ¬ x.to < (n : Int) by omega)]; simp)).symm
         clear HJ
         go_wp2
         go_ret
         exact ⟨retO_i HX.out, hb3⟩
        ·by_cases g3 : (x.c : Int) ≤ last
         ·have HX : Hid (1 = trieE t) := Lib.hid (trieE_no (by rw [HJ.out, decide_eq_false (show ¬ last < (x.c : Int) by omega)]; simp)).symm
          clear HJ
          go_wp2
          go_ret
          exact ⟨retO_i HX.out, hb3⟩
         ·have HX : Hid (trieOk t = (edOk k n x.c (q.es.drop (i + 1)) && ndsOk n (k + 1) (t.drop (k + 1)))) := Lib.hid (HJ.out.trans (by rw [decide_eq_true (show (k : Int) < x.to by omega), decide_eq_true (show x.to < (n : Int) by omega), decide_eq_true (show last < (x.c : Int) by omega)]; rfl))
          clear HJ
          go_wp2
          go_roundw
          case rel => exact ⟨i + 1, _, by omega, by go_num, rfl, HX, hb3⟩
          case measure => simp [intOf]; omega
      ·have HX : Hid (trieOk t = ndsOk n (k + 1 : Nat) (t.drop (k + 1))) := Lib.hid (hJ.out.trans (by rw [ed_end _ _ _ (by rw [← HM.out]; omega)]; rfl))
       clear hJ
       go_wp2
       go_roundw
       case rel => exact ⟨k + 1, by omega, by go_num, HX, hb2⟩
       case measure => simp [intOf]; omega
   ·have HX : Hid (0 = trieE t) := Lib.hid (trieE_yes (by rw [hI.out, nds_end _ (by rw [HN.out]; omega)])).symm
    clear hI
    go_wp2
    go_ret
    exact ⟨retO_i HX.out, hb⟩
end Go.Proofs.YtbbbeldbhlehnaaGreatDoor
end
section
set_option maxRecDepth 100000
namespace Gno
open Go
def lastTE (l : List Eg) : Nat → Int
 | 0 => -1
 | i + 1 => match l[i]? with
   | some x => x.c
   | none => 0
end Gno
namespace Go.Proofs.YtbbbeldbhlehnaaGreatDoor
open Go.RowKit Gno
theorem below_drewT {B : Nat} {w W : World} (h : Below B w W) (n : Nat) : Below B w (W.drewN n) := h.trans ⟨rfl, rfl, rfl, Nat.le_refl _, fun _ _ => rfl⟩
theorem withinT_any (n lo hi : Int) (w : World) :
 Calls Tryz.prog 45 #[.int .i64 n, .int .i64 lo, .int .i64 hi] w fun e w' => e = .returned (.bool (decide (lo ≤ n ∧ n ≤ hi))) ∧ w = w' := by
 by_cases h1 : lo ≤ n
 ·by_cases h2 : n ≤ hi
  ·have HX : decide (lo ≤ n ∧ n ≤ hi) = true := by simp [h1, h2]
   rw [HX]
   clear HX
   go_enter Tryz.func45, Tryz.ntmps45
   go_wp2
   go_ret
   exact ⟨by simp [h2], rfl⟩
  ·have HX : decide (lo ≤ n ∧ n ≤ hi) = false := by simp [h2]
   rw [HX]
   clear HX
   go_enter Tryz.func45, Tryz.ntmps45
   go_wp2
   go_ret
   exact ⟨by simp [h2], rfl⟩
 ·have HX : decide (lo ≤ n ∧ n ≤ hi) = false := by simp [h1]
  rw [HX]
  clear HX
  go_enter Tryz.func45, Tryz.ntmps45
  go_wp2
  go_ret
  exact ⟨by simp, rfl⟩
end Go.Proofs.YtbbbeldbhlehnaaGreatDoor
end
section
namespace Gno
open Go Go.RowKit Go.Proofs.YtbbbeldbhlehnaaGreatDoor
def fmtMax : Nat := 4294967280
def Er.val (x : Er) : Value := .agg #[.int .i64 x.std, .int .i64 x.set, .int .i64 x.save, .string x.fmt, .int .i64 x.til]
def Dt.val (d : Dt) : Value := .agg #[.slice d.sA d.sn d.sc, .slice d.zA d.zn d.zc, .slice d.lA d.ln d.lc]
def ErAt (w : World) (b o : Nat) (x : Er) : Prop :=
 w.cell? ⟨b, o, none⟩ = some (.int .i64 x.std) ∧ w.cell? ⟨b, o + 1, none⟩ = some (.int .i64 x.set) ∧ w.cell? ⟨b, o + 2, none⟩ = some (.int .i64 x.save) ∧
 w.cell? ⟨b, o + 3, none⟩ = some (.string x.fmt) ∧ w.cell? ⟨b, o + 4, none⟩ = some (.int .i64 x.til)
def ErasAt : World → Nat → Option Addr → Nat → List Er → Prop := SlAt 5 (fun w B b o x => ErAt w b o x ∧ x.fmt.size ≤ fmtMax)
def ZnAt (w : World) (b o : Nat) (z : Zn) : Prop := w.cell? ⟨b, o, none⟩ = some (.string z.name) ∧ w.cell? ⟨b, o + 1, none⟩ = some (.slice z.A z.n z.cap)
def ZonesAt : World → Nat → Option Addr → Nat → List Zn → Prop := SlAt 2 (fun w B b o z => ZnAt w b o z ∧ z.name.size ≤ maxLen ∧ ErasAt w B z.A z.n z.es)
def StAt (w : World) (b o : Nat) (s : St) : Prop := w.cell? ⟨b, o, none⟩ = some (.string s.name) ∧ w.cell? ⟨b, o + 1, none⟩ = some (.slice s.A s.n s.cap)
def SetsAt : World → Nat → Option Addr → Nat → List St → Prop := SlAt 2 (fun w B b o s => StAt w b o s ∧ s.name.size ≤ maxLen ∧ RulesAt w B s.A s.n s.rs)
def LkAt (w : World) (b o : Nat) (l : Lk) : Prop := w.cell? ⟨b, o, none⟩ = some (.string l.name) ∧ w.cell? ⟨b, o + 1, none⟩ = some (.string l.to)
def LinksAt : World → Nat → Option Addr → Nat → List Lk → Prop := SlAt 2 (fun w B b o l => LkAt w b o l ∧ l.name.size ≤ maxLen ∧ l.to.size ≤ maxLen)
def DataAt (w : World) (B : Nat) (d : Dt) : Prop := SetsAt w B d.sA d.sn d.ss ∧ ZonesAt w B d.zA d.zn d.zs ∧ LinksAt w B d.lA d.ln d.ls ∧ d.ln ≤ fmtMax
theorem ErAt.below {w w' : World} {B b o : Nat} {x : Er} (h : ErAt w b o x) (hb : Below B w w') (hB : b < B) : ErAt w' b o x :=
 ⟨(hb.cell hB).trans h.1, (hb.cell hB).trans h.2.1, (hb.cell hB).trans h.2.2.1, (hb.cell hB).trans h.2.2.2.1, (hb.cell hB).trans h.2.2.2.2⟩
theorem ZnAt.below {w w' : World} {B b o : Nat} {x : Zn} (h : ZnAt w b o x) (hb : Below B w w') (hB : b < B) : ZnAt w' b o x := ⟨(hb.cell hB).trans h.1, (hb.cell hB).trans h.2⟩
theorem StAt.below {w w' : World} {B b o : Nat} {x : St} (h : StAt w b o x) (hb : Below B w w') (hB : b < B) : StAt w' b o x := ⟨(hb.cell hB).trans h.1, (hb.cell hB).trans h.2⟩
theorem LkAt.below {w w' : World} {B b o : Nat} {x : Lk} (h : LkAt w b o x) (hb : Below B w w') (hB : b < B) : LkAt w' b o x := ⟨(hb.cell hB).trans h.1, (hb.cell hB).trans h.2⟩
theorem keeps_er : Keeps (fun w B b o x => ErAt w b o x ∧ x.fmt.size ≤ fmtMax) := fun _ _ _ _ _ _ _ hb hB hbB h => ⟨h.1.below hb (by omega), h.2⟩
theorem keeps_zn : Keeps (fun w B b o z => ZnAt w b o z ∧ z.name.size ≤ maxLen ∧ ErasAt w B z.A z.n z.es) := fun _ _ _ _ _ _ _ hb hB hbB h =>
 ⟨h.1.below hb (by omega), h.2.1, SlAt.below keeps_er h.2.2 hb hB⟩
theorem keeps_st : Keeps (fun w B b o s => StAt w b o s ∧ s.name.size ≤ maxLen ∧ RulesAt w B s.A s.n s.rs) := fun _ _ _ _ _ _ _ hb hB hbB h =>
 ⟨h.1.below hb (by omega), h.2.1, (h.2.2.below hb hB).more hB⟩
theorem keeps_lk : Keeps (fun w B b o l => LkAt w b o l ∧ l.name.size ≤ maxLen ∧ l.to.size ≤ maxLen) := fun _ _ _ _ _ _ _ hb hB hbB h =>
 ⟨h.1.below hb (by omega), h.2.1, h.2.2⟩
theorem DataAt.below {w w' : World} {B B' : Nat} {d : Dt} (h : DataAt w B d) (hb : Below B' w w') (hB : B ≤ B') : DataAt w' B' d :=
 ⟨SlAt.below keeps_st h.1 hb hB, SlAt.below keeps_zn h.2.1 hb hB, SlAt.below keeps_lk h.2.2.1 hb hB, h.2.2.2⟩
theorem DataAt.next {w W : World} {d : Dt} (h : DataAt w w.heap.size d) (hb : Below w.heap.size w W) : DataAt W W.heap.size d :=
 (h.below hb (Nat.le_refl _)).below (B' := W.heap.size) (Below.refl _ _) hb.size
theorem _root_.Go.Proofs.YtbbbeldbhlehnaaGreatDoor.RulesAt.get {w : World} {B : Nat} {A : Option Addr} {n : Nat} {l : List Rl} (h : RulesAt w B A n l) {i : Nat} (hi : i < n) :
 ∃ b o q, A = some ⟨b, o, none⟩ ∧ b < B ∧ l[i]? = some q ∧ q.le.size ≤ maxLen ∧ ∀ W, Below B w W → RuleAt W b (o + i * 9) q := by
 obtain ⟨b, o, hA, hbB, hc⟩ := h.2.2 (by omega)
 have hl : i < l.length := by rw [h.1]; exact hi
 have h1 := hc i _ (List.getElem?_eq_getElem hl)
 exact ⟨b, o, l[i], hA, hbB, List.getElem?_eq_getElem hl, h1.2, fun W hW => h1.1.below hW hbB⟩
theorem zones_get {w : World} {B : Nat} {A : Option Addr} {n : Nat} {l : List Zn} (h : ZonesAt w B A n l) {i : Nat} (hi : i < n) :
 ∃ b o q, A = some ⟨b, o, none⟩ ∧ b < B ∧ l[i]? = some q ∧ q.name.size ≤ maxLen ∧ ∀ W, Below B w W → ZnAt W b (o + i * 2) q ∧ ErasAt W B q.A q.n q.es := by
 obtain ⟨b, o, q, h1, h2, h3, h4⟩ := SlAt.get keeps_zn h hi
 exact ⟨b, o, q, h1, h2, h3, (h4 w (Below.refl _ _)).2.1, fun W hW => ⟨(h4 W hW).1, (h4 W hW).2.2⟩⟩
theorem sets_get {w : World} {B : Nat} {A : Option Addr} {n : Nat} {l : List St} (h : SetsAt w B A n l) {i : Nat} (hi : i < n) :
 ∃ b o q, A = some ⟨b, o, none⟩ ∧ b < B ∧ l[i]? = some q ∧ q.name.size ≤ maxLen ∧ ∀ W, Below B w W → StAt W b (o + i * 2) q ∧ RulesAt W B q.A q.n q.rs := by
 obtain ⟨b, o, q, h1, h2, h3, h4⟩ := SlAt.get keeps_st h hi
 exact ⟨b, o, q, h1, h2, h3, (h4 w (Below.refl _ _)).2.1, fun W hW => ⟨(h4 W hW).1, (h4 W hW).2.2⟩⟩
theorem links_get {w : World} {B : Nat} {A : Option Addr} {n : Nat} {l : List Lk} (h : LinksAt w B A n l) {i : Nat} (hi : i < n) :
 ∃ b o q, A = some ⟨b, o, none⟩ ∧ b < B ∧ l[i]? = some q ∧ q.name.size ≤ maxLen ∧ q.to.size ≤ maxLen ∧ ∀ W, Below B w W → LkAt W b (o + i * 2) q := by
 obtain ⟨b, o, q, h1, h2, h3, h4⟩ := SlAt.get keeps_lk h hi
 exact ⟨b, o, q, h1, h2, h3, (h4 w (Below.refl _ _)).2.1, (h4 w (Below.refl _ _)).2.2, fun W hW => (h4 W hW).1⟩
theorem eras_get {w : World} {B : Nat} {A : Option Addr} {n : Nat} {l : List Er} (h : ErasAt w B A n l) {i : Nat} (hi : i < n) :
 ∃ b o q, A = some ⟨b, o, none⟩ ∧ b < B ∧ l[i]? = some q ∧ q.fmt.size ≤ fmtMax ∧ ∀ W, Below B w W → ErAt W b (o + i * 5) q := by
 obtain ⟨b, o, q, h1, h2, h3, h4⟩ := SlAt.get keeps_er h hi
 exact ⟨b, o, q, h1, h2, h3, (h4 w (Below.refl _ _)).2, fun W hW => (h4 W hW).1⟩
end Gno
end
section
namespace Go.Proofs.YtbbbeldbhlehnaaGreatDoor
open Go.RowKit Gno
def thrown (e : Int) : List PanicEntry := [{ v := .iface 171 (.agg #[.int .i64 e]), recovered := false }]
theorem must_yes (e : Int) (w : World) : Calls Tryz.prog 113 #[.bool true, .int .i64 e] w fun x w' => x = .returned (.tuple #[]) ∧ w = w' := by
 go_enter Tryz.func113, Tryz.ntmps113
 go_wp2
 go_end0
 exact ⟨rfl, rfl⟩
theorem must_no (e : Int) (w : World) : Calls Tryz.prog 113 #[.bool false, .int .i64 e] w fun x w' => x = .panicked (thrown e) ∧ w = w' := by
 go_enter Tryz.func113, Tryz.ntmps113
 go_wp2
 exact ⟨rfl, rfl, rfl⟩
set_option maxHeartbeats 4000000 in
theorem era_any (d : Dt) (x : Er) (ahead : Int) (w : World) (hn : d.sn ≤ maxLen) :
 Calls Tryz.prog 125 #[d.val, x.val, .int .i64 ahead] w fun e w' => e = .returned (.bool (eraOk d.sn x ahead)) ∧ Below w.heap.size w w' := by
 unfold Dt.val Er.val
 unfold maxLen at hn
 go_enter Tryz.func125, Tryz.ntmps125
 go_wp2
 all_goals go_ret
 all_goals exact ⟨ret_bool (by rw [Bool.eq_iff_iff]; simp [eraOk]; omega), ((Below.refl _ _).alloc (Nat.le_refl _) _).alloc (by simp) _⟩
end Go.Proofs.YtbbbeldbhlehnaaGreatDoor
end
section
namespace Go.Proofs.YtbbbeldbhlehnaaGreatDoor
open Go.RowKit Gno
def PredZone (P : Program) (g : Nat) (lb : Array Value) (p : Zn → Bool) (l : List Zn) (w : World) : Prop :=
 ∀ (W : World) (x : Zn), x ∈ l → Below w.heap.size w W → Calls P g (#[.agg #[.string x.name, .slice x.A x.n x.cap]] ++ lb) W fun e w' => e = .returned (.bool (p x)) ∧ Below W.heap.size W w'
set_option maxRecDepth 100000 in
set_option maxHeartbeats 4000000 in
theorem indexZone_any (g : Nat) (lb : Array Value) (eg : ∀ args w, (callFunc g args).run Tryz.prog w = .ok (.enter g args) w) (p : Zn → Bool) (A : Option Addr) (n cap : Nat) (l : List Zn) (w : World)
 (hR : ZonesAt w w.heap.size A n l) (hp : PredZone Tryz.prog g lb p l w) :
 Calls Tryz.prog 68 #[.slice A n cap, .func (.func g) #[] lb] w fun e w' => e = .returned (.int .i64 (fst p l 0)) ∧ Below w.heap.size w w' := by
 have hn : n ≤ 9223372036854775807 := hR.2.1
 have HR := Lib.hid hR
 have HP := Lib.hid hp
 clear hR hp
 go_enter Tryz.func68, Tryz.ntmps68
 go_wp2
 go_loopw [8] (fun b0 wr => ∃ i : Nat, i ≤ n ∧ b0 = .int .i64 i ∧ Hid (fst p (l.drop i) i = fst p l 0) ∧ Below w.heap.size w wr) (fun b0 _ => n - (intOf b0).toNat)
 case atStart => exact ⟨0, Nat.zero_le _, rfl, Lib.hid (by simp), Below.refl _ _⟩
 case round =>
  obtain ⟨i, hi, rfl, hfd, hb⟩ := hrel
  by_cases hlt : i < n
  ·obtain ⟨b, o, q, hA, hbB, hq, hqs, hqq⟩ := zones_get HR.out hlt
   subst hA
   obtain ⟨⟨e0, e1⟩, hqe⟩ := hqq _ hb
   have hmem : q ∈ l := List.mem_of_getElem? hq
   have FD := Lib.hid (fst_drop (p := p) hq)
   have c := HP.out wr q hmem hb
   clear hq hqq hmem
   cases hpk : p q
   ·rw [hpk] at c
    have C := Lib.hid c
    have HX := Lib.hid ((FD.out.2 hpk).symm.trans hfd.out)
    clear c hfd hpk
    go_wp2_with (go_at_fn g; (with_reducible refine C.out.mono ?_); rintro e w4 ⟨rfl, hb4⟩; have hb5 := hb.trans (hb4.mono hb.size); clear hb4)
    go_roundw
    case rel => exact ⟨i + 1, by omega, by go_num, HX, hb5⟩
    case measure => simp [intOf]; omega
   ·rw [hpk] at c
    have C := Lib.hid c
    have HX := Lib.hid ((FD.out.1 hpk).symm.trans hfd.out)
    clear c hfd hpk
    go_wp2_with (go_at_fn g; (with_reducible refine C.out.mono ?_); rintro e w4 ⟨rfl, hb4⟩; have hb5 := hb.trans (hb4.mono hb.size); clear hb4)
    go_ret
    exact ⟨ret_int HX.out, hb5⟩
  ·have HX := Lib.hid ((fst_end (p := p) (by have := HR.out.1; omega)).symm.trans hfd.out)
   go_wp2
   go_ret
   exact ⟨ret_int HX.out, hb⟩
def PredLink (P : Program) (g : Nat) (lb : Array Value) (p : Lk → Bool) (l : List Lk) (w : World) : Prop :=
 ∀ (W : World) (x : Lk), x ∈ l → Below w.heap.size w W → Calls P g (#[.agg #[.string x.name, .string x.to]] ++ lb) W fun e w' => e = .returned (.bool (p x)) ∧ Below W.heap.size W w'
set_option maxRecDepth 100000 in
set_option maxHeartbeats 4000000 in
theorem indexLink_any (g : Nat) (lb : Array Value) (eg : ∀ args w, (callFunc g args).run Tryz.prog w = .ok (.enter g args) w) (p : Lk → Bool) (A : Option Addr) (n cap : Nat) (l : List Lk) (w : World)
 (hR : LinksAt w w.heap.size A n l) (hp : PredLink Tryz.prog g lb p l w) :
 Calls Tryz.prog 70 #[.slice A n cap, .func (.func g) #[] lb] w fun e w' => e = .returned (.int .i64 (fst p l 0)) ∧ Below w.heap.size w w' := by
 have hn : n ≤ 9223372036854775807 := hR.2.1
 have HR := Lib.hid hR
 have HP := Lib.hid hp
 clear hR hp
 go_enter Tryz.func70, Tryz.ntmps70
 go_wp2
 go_loopw [8] (fun b0 wr => ∃ i : Nat, i ≤ n ∧ b0 = .int .i64 i ∧ Hid (fst p (l.drop i) i = fst p l 0) ∧ Below w.heap.size w wr) (fun b0 _ => n - (intOf b0).toNat)
 case atStart => exact ⟨0, Nat.zero_le _, rfl, Lib.hid (by simp), Below.refl _ _⟩
 case round =>
  obtain ⟨i, hi, rfl, hfd, hb⟩ := hrel
  by_cases hlt : i < n
  ·obtain ⟨b, o, q, hA, hbB, hq, hqs, hqs2, hqq⟩ := links_get HR.out hlt
   subst hA
   obtain ⟨e0, e1⟩ := hqq _ hb
   have hmem : q ∈ l := List.mem_of_getElem? hq
   have FD := Lib.hid (fst_drop (p := p) hq)
   have c := HP.out wr q hmem hb
   clear hq hqq hmem
   cases hpk : p q
   ·rw [hpk] at c
    have C := Lib.hid c
    have HX := Lib.hid ((FD.out.2 hpk).symm.trans hfd.out)
    clear c hfd hpk
    go_wp2_with (go_at_fn g; (with_reducible refine C.out.mono ?_); rintro e w4 ⟨rfl, hb4⟩; have hb5 := hb.trans (hb4.mono hb.size); clear hb4)
    go_roundw
    case rel => exact ⟨i + 1, by omega, by go_num, HX, hb5⟩
    case measure => simp [intOf]; omega
   ·rw [hpk] at c
    have C := Lib.hid c
    have HX := Lib.hid ((FD.out.1 hpk).symm.trans hfd.out)
    clear c hfd hpk
    go_wp2_with (go_at_fn g; (with_reducible refine C.out.mono ?_); rintro e w4 ⟨rfl, hb4⟩; have hb5 := hb.trans (hb4.mono hb.size); clear hb4)
    go_ret
    exact ⟨ret_int HX.out, hb5⟩
  ·have HX := Lib.hid ((fst_end (p := p) (by have := HR.out.1; omega)).symm.trans hfd.out)
   go_wp2
   go_ret
   exact ⟨ret_int HX.out, hb⟩
end Go.Proofs.YtbbbeldbhlehnaaGreatDoor
end
section
namespace Gno
open Go
theorem lead_zone {d : Dt} {f : Nat} {nm : ByteArray} (h : 0 ≤ zoneN d nm) : leadT d (f + 1) nm = zoneN d nm := by
 unfold leadT; rw [if_pos h]
theorem lead_none {d : Dt} {f : Nat} {nm : ByteArray} (h : ¬ 0 ≤ zoneN d nm) (h2 : linkN d nm < 0) : leadT d (f + 1) nm = -1 := by
 unfold leadT; rw [if_neg h]
 cases d.ls[(linkN d nm).toNat]? with
 | none => rfl
 | some l => simp only; rw [if_pos h2]
theorem lead_link {d : Dt} {f : Nat} {nm : ByteArray} {l : Lk} (h : ¬ 0 ≤ zoneN d nm) (h2 : ¬ linkN d nm < 0) (hl : d.ls[(linkN d nm).toNat]? = some l) : leadT d (f + 1) nm = leadT d f l.to := by
 rw [leadT, if_neg h, hl]
 simp only
 rw [if_neg h2]
theorem linkN_range (d : Dt) (nm : ByteArray) : -1 ≤ linkN d nm ∧ linkN d nm < d.ls.length := by
 unfold linkN
 rcases fst_range (isLink nm) d.ls 0 (by omega) with e | e <;> omega
end Gno
namespace Go.Proofs.YtbbbeldbhlehnaaGreatDoor
open Go.RowKit Gno
abbrev Dobj (d : Dt) : Obj := .cells #[.slice d.sA d.sn d.sc, .slice d.zA d.zn d.zc, .slice d.lA d.ln d.lc] 26
theorem leadZ_any (o : Nat) (nm : ByteArray) (x : Zn) (w : World) (hc : w.cell? ⟨o, 0, none⟩ = some (.string nm)) (ho : o < w.heap.size) :
 Calls Tryz.prog 69 #[.agg #[.string x.name, .slice x.A x.n x.cap], .pointer (some ⟨o, 0, none⟩)] w fun e w' => e = .returned (.bool (isZone nm x)) ∧ Below w.heap.size w w' := by
 have hc2 : (w.alloc (.cells #[.string x.name, .slice x.A x.n x.cap] 54)).cell? ⟨o, 0, none⟩ = some (.string nm) := (((Below.refl _ _).alloc (Nat.le_refl _) _).cell ho).trans hc
 go_enter Tryz.func69, Tryz.ntmps69
 go_wp2
 go_ret
 exact ⟨ret_bool rfl, (Below.refl _ _).alloc (Nat.le_refl _) _⟩
theorem leadL_any (o : Nat) (nm : ByteArray) (x : Lk) (w : World) (hc : w.cell? ⟨o, 0, none⟩ = some (.string nm)) (ho : o < w.heap.size) :
 Calls Tryz.prog 71 #[.agg #[.string x.name, .string x.to], .pointer (some ⟨o, 0, none⟩)] w fun e w' => e = .returned (.bool (isLink nm x)) ∧ Below w.heap.size w w' := by
 have hc2 : (w.alloc (.cells #[.string x.name, .string x.to] 127)).cell? ⟨o, 0, none⟩ = some (.string nm) := (((Below.refl _ _).alloc (Nat.le_refl _) _).cell ho).trans hc
 go_enter Tryz.func71, Tryz.ntmps71
 go_wp2
 go_ret
 exact ⟨ret_bool rfl, (Below.refl _ _).alloc (Nat.le_refl _) _⟩
set_option maxRecDepth 100000 in
set_option maxHeartbeats 4000000 in
theorem lead_any (d : Dt) (nm : ByteArray) (w : World) (hD : DataAt w w.heap.size d) :
 Calls Tryz.prog 35 #[d.val, .string nm] w fun e w' => e = .returned (.int .i64 (leadN d nm)) ∧ Below w.heap.size w w' := by
 have hmf : ∀ (fn : Fn) (first cap : Array Value) (w : World), (Instr.makeFunc fn first cap).run Tryz.prog w = .ok (.func fn first cap) w := fun _ _ _ _ => rfl
 have hln : d.ln ≤ 4294967280 := hD.2.2.2
 have HL : Hid (d.ls.length = d.ln) := Lib.hid hD.2.2.1.1
 have HD := Lib.hid hD
 have HV : Hid (leadT d (d.ln + 1 - 0) nm = leadN d nm) := Lib.hid (by unfold leadN; rw [HL.out]; rfl)
 clear hD
 unfold Dt.val
 go_enter Tryz.func35, Tryz.ntmps35
 go_wp2
 go_loopw [11] (fun b11 wr => ∃ (i : Nat) (v : ByteArray), i ≤ d.ln + 1 ∧ b11 = .int .i64 i ∧ wr.cell? ⟨w.heap.size + 1, 0, none⟩ = some (.string v) ∧ wr.frozen? ⟨w.heap.size + 1, 0, none⟩ = false ∧ Hid (leadT d (d.ln + 1 - i) v = leadN d nm) ∧
  wr.cell? ⟨w.heap.size, 1, none⟩ = some (.slice d.zA d.zn d.zc) ∧ wr.cell? ⟨w.heap.size, 2, none⟩ = some (.slice d.lA d.ln d.lc) ∧ Below w.heap.size w wr ∧ w.heap.size + 2 ≤ wr.heap.size) (fun b11 _ => d.ln + 1 - (intOf b11).toNat)
 case atStart =>
  refine ⟨0, nm, Nat.zero_le _, rfl, ?_, ?_, HV, ?_, ?_, ((Below.refl _ _).alloc (Nat.le_refl _) _).alloc (by simp) _, by simp⟩
  ·rw [World.cell?_alloc_at _ _ _ _ (by simp)]; rfl
  ·exact World.frozen?_alloc_at _ _ _ _ (by simp)
  ·rw [World.cell?_alloc_past _ _ _ (by simp), World.cell?_alloc_at _ _ _ _ rfl]; rfl
  ·rw [World.cell?_alloc_past _ _ _ (by simp), World.cell?_alloc_at _ _ _ _ rfl]; rfl
 case round =>
  clear HV
  obtain ⟨i, v, hi, rfl, c0, f0, hfd, z1, z2, hb, hz⟩ := hrel
  by_cases hlt : i < d.ln + 1
  ·have hf : d.ln + 1 - i = (d.ln - i) + 1 := by omega
   rw [hf] at hfd
   have IZ := Lib.hid (indexZone_any 69 #[.pointer (some ⟨w.heap.size + 1, 0, none⟩)] (enters_of Tryz.func69 (by kernel_rfl) rfl) (isZone v) d.zA d.zn d.zc d.zs wr ((HD.out.next hb).2.1)
    (fun W x hx hW => leadZ_any (w.heap.size + 1) v x W ((hW.cell (by show w.heap.size + 1 < wr.heap.size; omega)).trans c0) (by have := hW.size; omega)))
   by_cases hzn : 0 ≤ zoneN d v
   ·have HX := Lib.hid ((lead_zone (f := d.ln - i) hzn).symm.trans hfd.out)
    have hzb : decide (0 ≤ zoneN d v) = true := by simpa using hzn
    have IZ2 : Hid (Calls Tryz.prog 68 #[.slice d.zA d.zn d.zc, .func (.func 69) #[] #[.pointer (some ⟨w.heap.size + 1, 0, none⟩)]] wr fun e w' => e = .returned (.int .i64 (zoneN d v)) ∧ Below wr.heap.size wr w') := IZ
    clear IZ hfd hf hzn
    go_wp2_with (go_at_call 68; (with_reducible refine IZ2.out.mono ?_); rintro e w4 ⟨rfl, hb4⟩)
    go_ret
    exact ⟨ret_int HX.out, hb.trans (hb4.mono hb.size)⟩
   ·have hzb : decide (0 ≤ zoneN d v) = false := by simpa using hzn
    have IZ2 : Hid (Calls Tryz.prog 68 #[.slice d.zA d.zn d.zc, .func (.func 69) #[] #[.pointer (some ⟨w.heap.size + 1, 0, none⟩)]] wr fun e w' => e = .returned (.int .i64 (zoneN d v)) ∧ Below wr.heap.size wr w') := IZ
    have IL : Hid (∀ w4, Below wr.heap.size wr w4 → Calls Tryz.prog 70 #[.slice d.lA d.ln d.lc, .func (.func 71) #[] #[.pointer (some ⟨w.heap.size + 1, 0, none⟩)]] w4 fun e w' => e = .returned (.int .i64 (linkN d v)) ∧ Below w4.heap.size w4 w') := Lib.hid (fun w4 h4 =>
     indexLink_any 71 #[.pointer (some ⟨w.heap.size + 1, 0, none⟩)] (enters_of Tryz.func71 (by kernel_rfl) rfl) (isLink v) d.lA d.ln d.lc d.ls w4 ((HD.out.next (hb.trans (h4.mono hb.size))).2.2.1)
      (fun W x hx hW => leadL_any (w.heap.size + 1) v x W ((hW.cell (by show w.heap.size + 1 < w4.heap.size; have := h4.size; omega)).trans ((h4.cell (by show w.heap.size + 1 < wr.heap.size; omega)).trans c0)) (by have := hW.size; have := h4.size; omega)))
    have hlr := linkN_range d v
    rw [HL.out] at hlr
    obtain ⟨hl1, hl2⟩ := hlr
    have HK : Hid (∀ w4, Below wr.heap.size wr w4 → w4.cell? ⟨w.heap.size, 1, none⟩ = some (.slice d.zA d.zn d.zc) ∧ w4.cell? ⟨w.heap.size, 2, none⟩ = some (.slice d.lA d.ln d.lc) ∧ w4.cell? ⟨w.heap.size + 1, 0, none⟩ = some (.string v) ∧ w4.frozen? ⟨w.heap.size + 1, 0, none⟩ = false) := Lib.hid (fun w4 h4 =>
     ⟨(h4.cell (by show w.heap.size < _; omega)).trans z1, (h4.cell (by show w.heap.size < _; omega)).trans z2, (h4.cell (by show w.heap.size + 1 < _; omega)).trans c0, (h4.frozen (by show w.heap.size + 1 < _; omega)).trans f0⟩)
    by_cases hll : linkN d v < 0
    ·have HX := Lib.hid ((lead_none (f := d.ln - i) hzn hll).symm.trans hfd.out)
     have hlb : decide (linkN d v < 0) = true := by simpa using hll
     clear IZ hfd hf hzn
     go_wp2_with (first
      | (go_at_call 68; (with_reducible refine IZ2.out.mono ?_); rintro e w4 ⟨rfl, hb4⟩; obtain ⟨k1, k2, k3, k4⟩ := HK.out _ hb4)
      | (go_at_call 70; (with_reducible refine (IL.out _ hb4).mono ?_); rintro e w5 ⟨rfl, hb5⟩; have hb6 := hb4.trans (hb5.mono hb4.size); clear hb4 hb5))
     go_ret
     exact ⟨ret_int HX.out, hb.trans (hb6.mono hb.size)⟩
    ·obtain ⟨b, o, q, hA, hbB, hq, hqs, hqs2, hqq⟩ := links_get HD.out.2.2.1 (i := (linkN d v).toNat) (by omega)
     have HX := Lib.hid ((lead_link (f := d.ln - i) hzn hll hq).symm.trans hfd.out)
     have hlb : decide (linkN d v < 0) = false := by simpa using hll
     have HQ := Lib.hid hqq
     have HK2 : Hid (∀ w5, Below wr.heap.size wr w5 → w5.cell? ⟨b, o + (linkN d v).toNat * 2, none⟩ = some (.string q.name) ∧ w5.cell? ⟨b, o + (linkN d v).toNat * 2 + 1, none⟩ = some (.string q.to)) := Lib.hid (fun w5 h5 => HQ.out _ (hb.trans (h5.mono hb.size)))
     rw [hA] at HK IL
     have HA2 := Lib.hid hA
     clear IZ hfd hf hzn hq hqq hA
     go_wp2_with (first
      | (go_at_call 68; (with_reducible refine IZ2.out.mono ?_); rintro e w4 ⟨rfl, hb4⟩; obtain ⟨k1, k2, k3, k4⟩ := HK.out _ hb4)
      | (go_at_call 70; (with_reducible refine (IL.out _ hb4).mono ?_); rintro e w5 ⟨rfl, hb5⟩; have hb6 := hb4.trans (hb5.mono hb4.size); clear hb4 hb5 k1 k2 k3 k4; obtain ⟨k1, k2, k3, k4⟩ := HK.out _ hb6; obtain ⟨m0, m1⟩ := HK2.out _ hb6))
     have hb7 : Below w.heap.size w w5 := hb.trans (hb6.mono hb.size)
     have hz7 := hb6.size
     go_roundw
     case rel =>
      refine ⟨i + 1, q.to, by omega, by go_num, World.cell?_setCell_same _ _ _ k3, by rw [World.frozen?_setCell]; exact k4, ?_, ?_, ?_, hb7.setCell (by simp) _, by simp; omega⟩
      ·exact Lib.hid (by have := HX.out; rw [show d.ln + 1 - (i + 1) = d.ln - i by omega]; exact this)
      ·rw [World.cell?_setCell_far _ _ _ _ (by simp)]; exact k1
      ·rw [World.cell?_setCell_far _ _ _ _ (by simp), HA2.out]; exact k2
     case measure => simp [intOf]; omega
  ·have HX : Hid (leadN d nm = -1) := Lib.hid (by
    have := hfd.out
    rw [show d.ln + 1 - i = 0 by omega] at this
    exact this.symm)
   go_wp2
   go_ret
   exact ⟨ret_int HX.out.symm, hb⟩
end Go.Proofs.YtbbbeldbhlehnaaGreatDoor
end
section
namespace Go.Proofs.YtbbbeldbhlehnaaGreatDoor
open Go.RowKit Gno
set_option maxRecDepth 100000 in
set_option maxHeartbeats 4000000 in
theorem zoneN_any (d : Dt) (s : ByteArray) (w : World) (hD : DataAt w w.heap.size d) :
 Calls Tryz.prog 74 #[d.val, .string s] w fun e w' => e = .returned (.int .i64 (zoneN d s)) ∧ Below w.heap.size w w' := by
 have HD := Lib.hid (hD.2.1)
 have hn : d.zn ≤ 9223372036854775807 := HD.out.2.1
 have HLE := Lib.hid HD.out.1
 have hb0 : Below w.heap.size w (w.alloc (Dobj d)) := (Below.refl _ _).alloc (Nat.le_refl _) _
 have HB0 := Lib.hid hb0
 clear hD hb0
 unfold Dt.val
 go_enter Tryz.func74, Tryz.ntmps74
 go_wp2
 go_loopw [5] (fun b wr => ∃ i : Nat, i ≤ d.zn ∧ b = .int .i64 i ∧ Hid (fst (isZone s) (d.zs.drop i) i = zoneN d s) ∧ wr.cell? ⟨w.heap.size, 1, none⟩ = some (.slice d.zA d.zn d.zc) ∧ Below w.heap.size w wr) (fun b _ => d.zn - (intOf b).toNat)
 case atStart => exact ⟨0, Nat.zero_le _, rfl, Lib.hid (by rw [List.drop_zero]; rfl), by simp, HB0.out⟩
 case round =>
  obtain ⟨i, hi, rfl, hfi, hc, hb⟩ := hrel
  by_cases hit : i < d.zn
  ·obtain ⟨b, o, q, hA, hbB, hq, hqs, hqq⟩ := zones_get HD.out hit
   have FD := Lib.hid (fst_drop (p := isZone s) hq)
   obtain ⟨⟨e0, e1⟩, _⟩ := hqq _ hb
   rw [hA] at hc
   have HA := Lib.hid hA
   clear hq hqq hA
   cases h1 : isZone s q
   ·have HX := Lib.hid ((FD.out.2 h1).symm.trans hfi.out)
    have g1 : (q.name.toList == s.toList) = false := h1
    clear h1 hfi FD
    go_wp2
    go_roundw
    case rel => exact ⟨i + 1, by omega, by go_num, HX, by rw [HA.out]; exact hc, hb⟩
    case measure => simp [intOf]; omega
   ·have HX := Lib.hid ((FD.out.1 h1).symm.trans hfi.out)
    have g1 : (q.name.toList == s.toList) = true := h1
    clear h1 hfi FD
    go_wp2
    go_ret
    exact ⟨ret_int HX.out, hb⟩
  ·have HX : Hid (zoneN d s = -1) := Lib.hid (by rw [← hfi.out]; exact fst_end (by rw [HLE.out]; exact hit))
   clear hfi
   go_wp2
   go_ret
   exact ⟨ret_int HX.out.symm, hb⟩
set_option maxRecDepth 100000 in
set_option maxHeartbeats 4000000 in
theorem linkN_any (d : Dt) (s : ByteArray) (w : World) (hD : DataAt w w.heap.size d) :
 Calls Tryz.prog 75 #[d.val, .string s] w fun e w' => e = .returned (.int .i64 (linkN d s)) ∧ Below w.heap.size w w' := by
 have HD := Lib.hid (hD.2.2.1)
 have hn : d.ln ≤ 9223372036854775807 := HD.out.2.1
 have HLE := Lib.hid HD.out.1
 have hb0 : Below w.heap.size w (w.alloc (Dobj d)) := (Below.refl _ _).alloc (Nat.le_refl _) _
 have HB0 := Lib.hid hb0
 clear hD hb0
 unfold Dt.val
 go_enter Tryz.func75, Tryz.ntmps75
 go_wp2
 go_loopw [5] (fun b wr => ∃ i : Nat, i ≤ d.ln ∧ b = .int .i64 i ∧ Hid (fst (isLink s) (d.ls.drop i) i = linkN d s) ∧ wr.cell? ⟨w.heap.size, 2, none⟩ = some (.slice d.lA d.ln d.lc) ∧ Below w.heap.size w wr) (fun b _ => d.ln - (intOf b).toNat)
 case atStart => exact ⟨0, Nat.zero_le _, rfl, Lib.hid (by rw [List.drop_zero]; rfl), by simp, HB0.out⟩
 case round =>
  obtain ⟨i, hi, rfl, hfi, hc, hb⟩ := hrel
  by_cases hit : i < d.ln
  ·obtain ⟨b, o, q, hA, hbB, hq, hqs, _, hqq⟩ := links_get HD.out hit
   have FD := Lib.hid (fst_drop (p := isLink s) hq)
   obtain ⟨e0, e1⟩ := hqq _ hb
   rw [hA] at hc
   have HA := Lib.hid hA
   clear hq hqq hA
   cases h1 : isLink s q
   ·have HX := Lib.hid ((FD.out.2 h1).symm.trans hfi.out)
    have g1 : (q.name.toList == s.toList) = false := h1
    clear h1 hfi FD
    go_wp2
    go_roundw
    case rel => exact ⟨i + 1, by omega, by go_num, HX, by rw [HA.out]; exact hc, hb⟩
    case measure => simp [intOf]; omega
   ·have HX := Lib.hid ((FD.out.1 h1).symm.trans hfi.out)
    have g1 : (q.name.toList == s.toList) = true := h1
    clear h1 hfi FD
    go_wp2
    go_ret
    exact ⟨ret_int HX.out, hb⟩
  ·have HX : Hid (linkN d s = -1) := Lib.hid (by rw [← hfi.out]; exact fst_end (by rw [HLE.out]; exact hit))
   clear hfi
   go_wp2
   go_ret
   exact ⟨ret_int HX.out.symm, hb⟩
set_option maxRecDepth 100000 in
set_option maxHeartbeats 4000000 in
theorem follow_any (d : Dt) (nm : ByteArray) (w : World) (hD : DataAt w w.heap.size d) :
 Calls Tryz.prog 39 #[d.val, .string nm] w fun e w' => e = .returned (.int .i64 (leadN d nm)) ∧ Below w.heap.size w w' := by
 have hln : d.ln ≤ 4294967280 := hD.2.2.2
 have HL : Hid (d.ls.length = d.ln) := Lib.hid hD.2.2.1.1
 have HD := Lib.hid hD
 have HV : Hid (leadT d (d.ln + 1 - 0) nm = leadN d nm) := Lib.hid (by unfold leadN; rw [HL.out]; rfl)
 have CZ : Hid (∀ s W, Below w.heap.size w W → Calls Tryz.prog 74 #[.agg #[.slice d.sA d.sn d.sc, .slice d.zA d.zn d.zc, .slice d.lA d.ln d.lc], .string s] W fun e w' => e = .returned (.int .i64 (zoneN d s)) ∧ Below W.heap.size W w') := Lib.hid (fun s W hb => zoneN_any d s W (hD.next hb))
 have CL : Hid (∀ s W, Below w.heap.size w W → Calls Tryz.prog 75 #[.agg #[.slice d.sA d.sn d.sc, .slice d.zA d.zn d.zc, .slice d.lA d.ln d.lc], .string s] W fun e w' => e = .returned (.int .i64 (linkN d s)) ∧ Below W.heap.size W w') := Lib.hid (fun s W hb => linkN_any d s W (hD.next hb))
 have HB0 : Hid (Below w.heap.size w (w.alloc (Dobj d))) := Lib.hid ((Below.refl _ _).alloc (Nat.le_refl _) _)
 clear hD
 unfold Dt.val
 go_enter Tryz.func39, Tryz.ntmps39
 go_wp2
 go_loopw [1, 5] (fun b1 b5 wr => ∃ (i : Nat) (v : ByteArray), i ≤ d.ln + 1 ∧ b5 = .int .i64 i ∧ b1 = .string v ∧ Hid (leadT d (d.ln + 1 - i) v = leadN d nm) ∧
  Hid (Below (w.heap.size + 1) (w.alloc (Dobj d)) wr) ∧ Below w.heap.size w wr) (fun _ b5 _ => d.ln + 1 - (intOf b5).toNat)
 case atStart => exact ⟨0, nm, Nat.zero_le _, rfl, rfl, HV, Lib.hid (Below.refl _ _), HB0.out⟩
 case round =>
  clear HV
  obtain ⟨i, v, hi, rfl, rfl, hfd, hbx, hb⟩ := hrel
  have HC : Hid (∀ w4, Below wr.heap.size wr w4 → w4.cell? ⟨w.heap.size, 0, none⟩ = some (.slice d.sA d.sn d.sc) ∧ w4.cell? ⟨w.heap.size, 1, none⟩ = some (.slice d.zA d.zn d.zc) ∧ w4.cell? ⟨w.heap.size, 2, none⟩ = some (.slice d.lA d.ln d.lc)) := Lib.hid (fun w4 h4 => by
   have hz := hbx.out.size
   simp at hz
   have h5 := hbx.out.trans (h4.mono (by omega))
   exact ⟨(h5.cell (by simp)).trans (by simp), (h5.cell (by simp)).trans (by simp), (h5.cell (by simp)).trans (by simp)⟩)
  have HBX : Hid (∀ w4, Below wr.heap.size wr w4 → Below (w.heap.size + 1) (w.alloc (Dobj d)) w4) := Lib.hid (fun w4 h4 => hbx.out.trans (h4.mono (by have hz := hbx.out.size; simp at hz; omega)))
  obtain ⟨k0, k1, k2⟩ := HC.out _ (Below.refl _ _)
  by_cases hlt : i < d.ln + 1
  ·have hf : d.ln + 1 - i = (d.ln - i) + 1 := by omega
   rw [hf] at hfd
   have IZ := Lib.hid (CZ.out v wr hb)
   have gle : decide ((i : Int) ≤ (d.ln : Int)) = true := by simp; omega
   by_cases hzn : 0 ≤ zoneN d v
   ·have HX := Lib.hid ((lead_zone (f := d.ln - i) hzn).symm.trans hfd.out)
    have hzb : decide (0 ≤ zoneN d v) = true := by simpa using hzn
    clear hfd hf hzn hbx
    go_wp2_with (go_at_call 74; (with_reducible refine IZ.out.mono ?_); rintro e w4 ⟨rfl, hb4⟩)
    go_ret
    exact ⟨ret_int HX.out, hb.trans (hb4.mono hb.size)⟩
   ·have hzb : decide (0 ≤ zoneN d v) = false := by simpa using hzn
    have hlr := linkN_range d v
    rw [HL.out] at hlr
    obtain ⟨hl1, hl2⟩ := hlr
    by_cases hll : linkN d v < 0
    ·have HX := Lib.hid ((lead_none (f := d.ln - i) hzn hll).symm.trans hfd.out)
     have hlb : decide (linkN d v < 0) = true := by simpa using hll
     clear hfd hf hzn hbx
     go_wp2_with (first
      | (go_at_call 74; (with_reducible refine IZ.out.mono ?_); rintro e w4 ⟨rfl, hb4⟩; have hb5 := hb.trans (hb4.mono hb.size); clear k0 k1 k2; obtain ⟨k0, k1, k2⟩ := HC.out _ hb4)
      | (go_at_call 75; (with_reducible refine (CL.out _ _ hb5).mono ?_); rintro e w5 ⟨rfl, hb6⟩))
     go_ret
     exact ⟨ret_int HX.out, hb5.trans (hb6.mono hb5.size)⟩
    ·obtain ⟨b, o, q, hA, hbB, hq, hqs, hqs2, hqq⟩ := links_get HD.out.2.2.1 (i := (linkN d v).toNat) (by omega)
     have HX := Lib.hid ((lead_link (f := d.ln - i) hzn hll hq).symm.trans hfd.out)
     have hlb : decide (linkN d v < 0) = false := by simpa using hll
     have HQ := Lib.hid hqq
     rw [hA] at HC IZ CL k2
     have HA2 := Lib.hid hA
     clear hfd hf hzn hq hqq hA hbx
     go_wp2_with (first
      | (go_at_call 74; (with_reducible refine IZ.out.mono ?_); rintro e w4 ⟨rfl, hb4⟩; have hb5 := hb.trans (hb4.mono hb.size); clear k0 k1 k2; obtain ⟨k0, k1, k2⟩ := HC.out _ hb4)
      | (go_at_call 75; (with_reducible refine (CL.out _ _ hb5).mono ?_); rintro e w5 ⟨rfl, hb6⟩; have hb7 := hb4.trans (hb6.mono hb4.size); have hb8 := hb5.trans (hb6.mono hb5.size); clear k0 k1 k2; obtain ⟨k0, k1, k2⟩ := HC.out _ hb7; obtain ⟨m0, m1⟩ := HQ.out _ hb8))
     go_roundw
     case rel => exact ⟨i + 1, q.to, by omega, by go_num, rfl, Lib.hid (by have := HX.out; rw [show d.ln + 1 - (i + 1) = d.ln - i by omega]; exact this), Lib.hid (HBX.out _ hb7), hb8⟩
     case measure => simp [intOf]; omega
  ·have HX : Hid (leadN d nm = -1) := Lib.hid (by
    have := hfd.out
    rw [show d.ln + 1 - i = 0 by omega] at this
    exact this.symm)
   have gle : decide ((i : Int) ≤ (d.ln : Int)) = false := by simp; omega
   clear hfd hbx
   go_wp2
   go_ret
   exact ⟨ret_int HX.out.symm, hb⟩
end Go.Proofs.YtbbbeldbhlehnaaGreatDoor
end
section
namespace Go.Proofs.YtbbbeldbhlehnaaGreatDoor
open Go.RowKit Gno
theorem eraOk_iff (ns : Int) (x : Er) (ahead : Int) : eraOk ns x ahead = true ↔ (-50400 ≤ x.std ∧ x.std ≤ 50400) ∧ (-1 ≤ x.set ∧ x.set < ns) ∧ (0 ≤ x.save ∧ x.save ≤ 7200) ∧ (x.set < 0 ∨ x.save = 0) ∧ ahead < x.til := by
 unfold eraOk; simp only [Bool.and_eq_true, decide_eq_true_eq]
theorem eraOk_no {ns : Int} {x : Er} {ahead : Int} (h : ¬ ((-50400 ≤ x.std ∧ x.std ≤ 50400) ∧ (-1 ≤ x.set ∧ x.set < ns) ∧ (0 ≤ x.save ∧ x.save ≤ 7200) ∧ (x.set < 0 ∨ x.save = 0) ∧ ahead < x.til)) : false = eraOk ns x ahead := by
 cases h1 : eraOk ns x ahead
 ·rfl
 ·exact absurd ((eraOk_iff _ _ _).1 h1) h
set_option maxRecDepth 100000 in
set_option maxHeartbeats 4000000 in
theorem eraFine_any (d : Dt) (x : Er) (ahead : Int) (w : World) (hn : d.sn ≤ maxLen) :
 Calls Tryz.prog 170 #[d.val, x.val, .int .i64 ahead] w fun e w' => e = .returned (.bool (eraOk d.sn x ahead)) ∧ Below w.heap.size w w' := by
 unfold Dt.val Er.val
 unfold maxLen at hn
 have HB : Hid (Below w.heap.size w ((w.alloc (.cells #[.slice d.sA d.sn d.sc, .slice d.zA d.zn d.zc, .slice d.lA d.ln d.lc] 26)).alloc (.cells #[.int .i64 x.std, .int .i64 x.set, .int .i64 x.save, .string x.fmt, .int .i64 x.til] 125))) :=
  Lib.hid (((Below.refl _ _).alloc (Nat.le_refl _) _).alloc (by simp) _)
 cases h1 : stdOk x.std
 ·have g1 := (isStd_any x.std); rw [h1] at g1
  have G1 := Lib.hid g1
  have HX := Lib.hid (eraOk_no (ns := d.sn) (x := x) (ahead := ahead) (fun h => by have := (stdOk_iff x.std).2 h.1; rw [h1] at this; cases this))
  clear g1 h1
  go_enter Tryz.func170, Tryz.ntmps170
  go_wp2_with (go_at_call 225; (with_reducible refine (G1.out _).mono ?_); rintro e w4 ⟨rfl, rfl⟩)
  go_ret
  exact ⟨ret_bool HX.out, HB.out⟩
 have g1 := (isStd_any x.std); rw [h1] at g1
 have G1 := Lib.hid g1
 have H1 := Lib.hid ((stdOk_iff x.std).1 h1)
 clear g1 h1
 cases h2 : withinB x.set (-1) ((d.sn : Int) - 1)
 ·have g2 := (within_any x.set (-1) ((d.sn : Int) - 1)); rw [h2] at g2
  have G2 := Lib.hid g2
  have HX := Lib.hid (eraOk_no (ns := d.sn) (x := x) (ahead := ahead) (fun h => (withinB_no _ _ _).1 h2 ⟨h.2.1.1, by have := h.2.1.2; omega⟩))
  clear g2 h2
  go_enter Tryz.func170, Tryz.ntmps170
  go_wp2_with (first
   | (go_at_call 225; (with_reducible refine (G1.out _).mono ?_); rintro e w4 ⟨rfl, rfl⟩)
   | (go_at_call 45; (with_reducible refine (G2.out _).mono ?_); rintro e w4 ⟨rfl, rfl⟩))
  go_ret
  exact ⟨ret_bool HX.out, HB.out⟩
 have g2 := (within_any x.set (-1) ((d.sn : Int) - 1)); rw [h2] at g2
 have G2 := Lib.hid g2
 have H2 := Lib.hid ((withinB_iff _ _ _).1 h2)
 clear g2 h2
 cases h3 : withinB x.save 0 7200
 ·have g3 := (within_any x.save 0 7200); rw [h3] at g3
  have G3 := Lib.hid g3
  have HX := Lib.hid (eraOk_no (ns := d.sn) (x := x) (ahead := ahead) (fun h => (withinB_no _ _ _).1 h3 h.2.2.1))
  clear g3 h3
  go_enter Tryz.func170, Tryz.ntmps170
  go_wp2_with (first
   | (go_at_call 225; (with_reducible refine (G1.out _).mono ?_); rintro e w4 ⟨rfl, rfl⟩)
   | (go_at_call 45; (with_reducible refine (G2.out _).mono ?_); rintro e w4 ⟨rfl, rfl⟩)
   | (go_at_call 45; (with_reducible refine (G3.out _).mono ?_); rintro e w4 ⟨rfl, rfl⟩))
  go_ret
  exact ⟨ret_bool HX.out, HB.out⟩
 have g3 := (within_any x.save 0 7200); rw [h3] at g3
 have G3 := Lib.hid g3
 have H3 := Lib.hid ((withinB_iff _ _ _).1 h3)
 clear g3 h3
 cases h6 : decide (ahead < x.til)
 ·have HX6 := Lib.hid (eraOk_no (ns := d.sn) (x := x) (ahead := ahead) (fun h => by simp at h6; omega))
  cases h4 : (x.set == -1)
  ·cases h5 : (x.save == 0)
   ·go_enter Tryz.func170, Tryz.ntmps170
    go_wp2_with (first
     | (go_at_call 225; (with_reducible refine (G1.out _).mono ?_); rintro e w4 ⟨rfl, rfl⟩)
     | (go_at_call 45; (with_reducible refine (G2.out _).mono ?_); rintro e w4 ⟨rfl, rfl⟩)
     | (go_at_call 45; (with_reducible refine (G3.out _).mono ?_); rintro e w4 ⟨rfl, rfl⟩))
    go_ret
    exact ⟨ret_bool HX6.out, HB.out⟩
   ·go_enter Tryz.func170, Tryz.ntmps170
    go_wp2_with (first
     | (go_at_call 225; (with_reducible refine (G1.out _).mono ?_); rintro e w4 ⟨rfl, rfl⟩)
     | (go_at_call 45; (with_reducible refine (G2.out _).mono ?_); rintro e w4 ⟨rfl, rfl⟩)
     | (go_at_call 45; (with_reducible refine (G3.out _).mono ?_); rintro e w4 ⟨rfl, rfl⟩))
    go_ret
    exact ⟨ret_bool HX6.out, HB.out⟩
  ·go_enter Tryz.func170, Tryz.ntmps170
   go_wp2_with (first
    | (go_at_call 225; (with_reducible refine (G1.out _).mono ?_); rintro e w4 ⟨rfl, rfl⟩)
    | (go_at_call 45; (with_reducible refine (G2.out _).mono ?_); rintro e w4 ⟨rfl, rfl⟩)
    | (go_at_call 45; (with_reducible refine (G3.out _).mono ?_); rintro e w4 ⟨rfl, rfl⟩))
   go_ret
   exact ⟨ret_bool HX6.out, HB.out⟩
 ·cases h4 : (x.set == -1)
  ·cases h5 : (x.save == 0)
   ·have HX := Lib.hid (eraOk_no (ns := d.sn) (x := x) (ahead := ahead) (fun h => by simp at h4 h5; omega))
    go_enter Tryz.func170, Tryz.ntmps170
    go_wp2_with (first
     | (go_at_call 225; (with_reducible refine (G1.out _).mono ?_); rintro e w4 ⟨rfl, rfl⟩)
     | (go_at_call 45; (with_reducible refine (G2.out _).mono ?_); rintro e w4 ⟨rfl, rfl⟩)
     | (go_at_call 45; (with_reducible refine (G3.out _).mono ?_); rintro e w4 ⟨rfl, rfl⟩))
    go_ret
    exact ⟨ret_bool HX.out, HB.out⟩
   ·have HX := Lib.hid ((eraOk_iff d.sn x ahead).2 ⟨H1.out, ⟨H2.out.1, by have := H2.out.2; omega⟩, H3.out, .inr (by simpa using h5), by simpa using h6⟩)
    go_enter Tryz.func170, Tryz.ntmps170
    go_wp2_with (first
     | (go_at_call 225; (with_reducible refine (G1.out _).mono ?_); rintro e w4 ⟨rfl, rfl⟩)
     | (go_at_call 45; (with_reducible refine (G2.out _).mono ?_); rintro e w4 ⟨rfl, rfl⟩)
     | (go_at_call 45; (with_reducible refine (G3.out _).mono ?_); rintro e w4 ⟨rfl, rfl⟩))
    go_ret
    exact ⟨ret_bool HX.out.symm, HB.out⟩
  ·have HX := Lib.hid ((eraOk_iff d.sn x ahead).2 ⟨H1.out, ⟨H2.out.1, by have := H2.out.2; omega⟩, H3.out, .inl (by simp at h4; omega), by simpa using h6⟩)
   go_enter Tryz.func170, Tryz.ntmps170
   go_wp2_with (first
    | (go_at_call 225; (with_reducible refine (G1.out _).mono ?_); rintro e w4 ⟨rfl, rfl⟩)
    | (go_at_call 45; (with_reducible refine (G2.out _).mono ?_); rintro e w4 ⟨rfl, rfl⟩)
    | (go_at_call 45; (with_reducible refine (G3.out _).mono ?_); rintro e w4 ⟨rfl, rfl⟩))
   go_ret
   exact ⟨ret_bool HX.out.symm, HB.out⟩
end Go.Proofs.YtbbbeldbhlehnaaGreatDoor
end
section
set_option maxRecDepth 100000
namespace Go.Proofs.YtbbbeldbhlehnaaGreatDoor
open Go.ChangeShapes Go.WideShapes Go.ChangeAt Go.RowKit Gno
theorem cellsInt : Tryz.prog.cellsOf 3 = 1 := by kernel_rfl
theorem cellsString : Tryz.prog.cellsOf 9 = 1 := by kernel_rfl
theorem cellsOn' : Tryz.prog.cellsOf 121 = 3 := by kernel_rfl
theorem cellsRule : Tryz.prog.cellsOf 123 = 9 := by kernel_rfl
theorem list9 {α : Type} {l : List α} (h : l.length = 9) : ∃ a b c d e f g i j, l = [a, b, c, d, e, f, g, i, j] := by
 match l, h with
 | [a, b, c, d, e, f, g, i, j], _ => exact ⟨a, b, c, d, e, f, g, i, j, rfl⟩
def _root_.Gno.Rl.cells (r : Rl) : List Value := [.int .i64 r.fy, .int .i64 r.ty, .int .i64 r.mo, .int .i64 r.k, .int .i64 r.wk, .int .i64 r.d, .int .i64 r.a, .int .i64 r.sv, .string r.le]
section
variable {H : Type} {enc : TypeId × Value → H} {w : World} {base : Nat} {spare : Nat → Bool} {held : Bool}
theorem trod_On {fuel : Nat} {c0 c1 c2 : Value} {x : DataW H × List MemPlace} (h : DataW.trod enc Tryz.prog w base spare held fuel 121 [c0, c1, c2] = some x) :
 ∃ k wk d : Int, c0 = .int .i64 k ∧ c1 = .int .i64 wk ∧ c2 = .int .i64 d := by
 obtain ⟨xs, n, _, _, _, hlen, hf⟩ := DataW.trod_struct Tryz.underlying121 h
 have h0 := hf 0 _ rfl
 have h1 := hf 1 _ rfl
 have h2 := hf 2 _ rfl
 simp [cellsInt] at h0 h1 h2
 rw [List.getElem?_eq_getElem (by simp at hlen; omega)] at h0 h1 h2
 obtain ⟨k, e0, _⟩ := DataW.trod_int Tryz.underlying3 h0
 obtain ⟨wk, e1, _⟩ := DataW.trod_int Tryz.underlying3 h1
 obtain ⟨d, e2, _⟩ := DataW.trod_int Tryz.underlying3 h2
 simp at e0 e1 e2
 exact ⟨k, wk, d, e0, e1, e2⟩
theorem trod_Rule {fuel : Nat} {cs : List Value} {x : DataW H × List MemPlace} (h : DataW.trod enc Tryz.prog w base spare held fuel 123 cs = some x) :
 ∃ r : Rl, cs = r.cells ∧ r.le.size ≤ maxLen := by
 obtain ⟨xs, n, _, _, hl, hlen, hf⟩ := DataW.trod_struct Tryz.underlying123 h
 obtain ⟨c0, c1, c2, c3, c4, c5, c6, c7, c8, rfl⟩ := list9 (hl.trans cellsRule)
 have h0 := hf 0 _ rfl
 have h1 := hf 1 _ rfl
 have h2 := hf 2 _ rfl
 have h3 := hf 3 _ rfl
 have h4 := hf 4 _ rfl
 have h5 := hf 5 _ rfl
 have h6 := hf 6 _ rfl
 simp [cellsInt, cellsString, cellsOn'] at h0 h1 h2 h3 h4 h5 h6
 rw [List.getElem?_eq_getElem (by simp at hlen; omega)] at h0 h1 h2 h3 h4 h5 h6
 obtain ⟨fy, e0, _⟩ := DataW.trod_int Tryz.underlying3 h0
 obtain ⟨ty, e1, _⟩ := DataW.trod_int Tryz.underlying3 h1
 obtain ⟨mo, e2, _⟩ := DataW.trod_int Tryz.underlying3 h2
 obtain ⟨k, wk, d, e3, e4, e5⟩ := trod_On h3
 obtain ⟨a, e6, _⟩ := DataW.trod_int Tryz.underlying3 h4
 obtain ⟨sv, e7, _⟩ := DataW.trod_int Tryz.underlying3 h5
 obtain ⟨le, e8, _, hs⟩ := DataW.trod_string Tryz.underlying9 h6
 simp at e0 e1 e2 e6 e7 e8
 exact ⟨⟨fy, ty, mo, k, wk, d, a, sv, le⟩, by rw [e0, e1, e2, e3, e4, e5, e6, e7, e8]; rfl, hs⟩
end
end Go.Proofs.YtbbbeldbhlehnaaGreatDoor
end
section
set_option maxRecDepth 100000
namespace Go.Proofs.YtbbbeldbhlehnaaGreatDoor
open Go.ChangeShapes Go.WideShapes Go.ChangeAt Go.RowKit Gno
theorem cellsEra : Tryz.prog.cellsOf 125 = 5 := by kernel_rfl
theorem cellsZone : Tryz.prog.cellsOf 54 = 2 := by kernel_rfl
theorem cellsSet : Tryz.prog.cellsOf 115 = 2 := by kernel_rfl
theorem cellsLink : Tryz.prog.cellsOf 127 = 2 := by kernel_rfl
theorem cellsData : Tryz.prog.cellsOf 26 = 3 := by kernel_rfl
theorem cellsEras : Tryz.prog.cellsOf 52 = 1 := by kernel_rfl
theorem cellsRules : Tryz.prog.cellsOf 113 = 1 := by kernel_rfl
theorem cellsSets : Tryz.prog.cellsOf 22 = 1 := by kernel_rfl
theorem cellsZones : Tryz.prog.cellsOf 23 = 1 := by kernel_rfl
theorem cellsLinks : Tryz.prog.cellsOf 24 = 1 := by kernel_rfl
section
variable {H : Type} {enc : TypeId × Value → H} {w : World} {base : Nat} {spare : Nat → Bool} {held : Bool}
theorem part_small {xs : List (DataW H × List MemPlace)} (h : Small (.agg (xs.map (·.1)))) {i : Nat} (hi : i < xs.length) : Small xs[i].1 :=
 h.part (List.mem_map.2 ⟨_, List.getElem_mem hi, rfl⟩)
theorem trod_Link {fuel : Nat} {cs : List Value} {x : DataW H × List MemPlace} (ht : DataW.trod enc Tryz.prog w base spare held fuel 127 cs = some x) :
 ∃ a : Lk, cs = [.string a.name, .string a.to] ∧ a.name.size ≤ maxLen ∧ a.to.size ≤ maxLen := by
 obtain ⟨xs, n, _, _, hl, hlen, hf⟩ := DataW.trod_struct Tryz.underlying127 ht
 match cs, hl.trans cellsLink with
 | [c0, c1], _ =>
   have h0 := hf 0 _ rfl
   have h1 := hf 1 _ rfl
   simp [cellsString] at h0 h1
   rw [List.getElem?_eq_getElem (by simp at hlen; omega)] at h0 h1
   obtain ⟨k, e0, _, hs⟩ := DataW.trod_string Tryz.underlying9 h0
   obtain ⟨t, e1, _, hs1⟩ := DataW.trod_string Tryz.underlying9 h1
   simp at e0 e1
   exact ⟨⟨k, t⟩, by rw [e0, e1], hs, hs1⟩
theorem trod_Era {fuel : Nat} {cs : List Value} {x : DataW H × List MemPlace} (ht : DataW.trod enc Tryz.prog w base spare held fuel 125 cs = some x) (hx : Small x.1) :
 ∃ a : Er, cs = [.int .i64 a.std, .int .i64 a.set, .int .i64 a.save, .string a.fmt, .int .i64 a.til] ∧ a.fmt.size ≤ fmtMax := by
 obtain ⟨xs, n, _, rfl, hl, hlen, hf⟩ := DataW.trod_struct Tryz.underlying125 ht
 match cs, hl.trans cellsEra with
 | [c0, c1, c2, c3, c4], _ =>
   have hlen' : xs.length = 5 := by simpa using hlen
   have h0 := hf 0 _ rfl
   have h1 := hf 1 _ rfl
   have h2 := hf 2 _ rfl
   have h3 := hf 3 _ rfl
   have h4 := hf 4 _ rfl
   simp [cellsString, cellsInt] at h0 h1 h2 h3 h4
   rw [List.getElem?_eq_getElem (by omega)] at h0 h1 h2 h3 h4
   obtain ⟨std, e0, _⟩ := DataW.trod_int Tryz.underlying3 h0
   obtain ⟨set, e1, _⟩ := DataW.trod_int Tryz.underlying3 h1
   obtain ⟨save, e2, _⟩ := DataW.trod_int Tryz.underlying3 h2
   obtain ⟨fmt, e3, e3', hs⟩ := DataW.trod_string Tryz.underlying9 h3
   obtain ⟨til, e4, _⟩ := DataW.trod_int Tryz.underlying3 h4
   have hsm := part_small hx (i := 3) (by omega)
   rw [e3'] at hsm
   have := hsm.str
   simp at e0 e1 e2 e3 e4
   exact ⟨⟨std, set, save, fmt, til⟩, by rw [e0, e1, e2, e3, e4], (show fmt.size ≤ fmtMax by unfold fmtMax; omega)⟩
theorem trod_Zone {fuel : Nat} {cs : List Value} {x : DataW H × List MemPlace} (ht : DataW.trod enc Tryz.prog w base spare held fuel 54 cs = some x) (hx : Small x.1) :
 ∃ a : Zn, cs = [.string a.name, .slice a.A a.n a.cap] ∧ a.name.size ≤ maxLen ∧ ErasAt w w.heap.size a.A a.n a.es := by
 obtain ⟨xs, n, _, rfl, hl, hlen, hf⟩ := DataW.trod_struct Tryz.underlying54 ht
 match cs, hl.trans cellsZone with
 | [c0, c1], _ =>
   have hlen' : xs.length = 2 := by simpa using hlen
   have h0 := hf 0 _ rfl
   have h1 := hf 1 _ rfl
   simp [cellsString, cellsEras] at h0 h1
   rw [List.getElem?_eq_getElem (by omega)] at h0 h1
   obtain ⟨k, e0, _, hs⟩ := DataW.trod_string Tryz.underlying9 h0
   obtain ⟨A, m, cap, es, e1, _, _, hes, _⟩ := open_slice_sm (α := Er) (sz := 5) Tryz.underlying52 cellsEra (by omega) (fun w B b o x => ErAt w b o x ∧ x.fmt.size ≤ fmtMax) (fun fuel cs x ht hx => by
    obtain ⟨a, rfl, hf⟩ := trod_Era ht hx
    exact ⟨a, rfl, fun b o hc => ⟨⟨hc 0 (by omega), hc 1 (by omega), hc 2 (by omega), hc 3 (by omega), hc 4 (by omega)⟩, hf⟩⟩) h1 (part_small hx (i := 1) (by omega))
   simp at e0 e1
   exact ⟨⟨k, A, m, cap, es⟩, by rw [e0, e1], hs, hes⟩
theorem trod_Set {fuel : Nat} {cs : List Value} {x : DataW H × List MemPlace} (ht : DataW.trod enc Tryz.prog w base spare held fuel 115 cs = some x) (hx : Small x.1) :
 ∃ a : St, cs = [.string a.name, .slice a.A a.n a.cap] ∧ a.name.size ≤ maxLen ∧ RulesAt w w.heap.size a.A a.n a.rs := by
 obtain ⟨xs, n, _, rfl, hl, hlen, hf⟩ := DataW.trod_struct Tryz.underlying115 ht
 match cs, hl.trans cellsSet with
 | [c0, c1], _ =>
   have hlen' : xs.length = 2 := by simpa using hlen
   have h0 := hf 0 _ rfl
   have h1 := hf 1 _ rfl
   simp [cellsString, cellsRules] at h0 h1
   rw [List.getElem?_eq_getElem (by omega)] at h0 h1
   obtain ⟨k, e0, _, hs⟩ := DataW.trod_string Tryz.underlying9 h0
   obtain ⟨A, m, cap, rs, e1, _, _, hrs⟩ := open_slice_gen (α := Rl) (sz := 9) Tryz.underlying113 cellsRule (by omega) (fun w B b o r => RuleAt w b o r ∧ r.le.size ≤ maxLen) (fun fuel cs x ht => by
    obtain ⟨r, rfl, hle⟩ := trod_Rule ht
    exact ⟨r, rfl, fun b o hc => ⟨⟨hc 0 (by omega), hc 1 (by omega), hc 2 (by omega), hc 3 (by omega), hc 4 (by omega), hc 5 (by omega), hc 6 (by omega), hc 7 (by omega), hc 8 (by omega)⟩, hle⟩⟩) h1
   simp at e0 e1
   exact ⟨⟨k, A, m, cap, rs⟩, by rw [e0, e1], hs, hrs⟩
end
end Go.Proofs.YtbbbeldbhlehnaaGreatDoor
end
section
set_option maxRecDepth 100000
namespace Go.Proofs.YtbbbeldbhlehnaaGreatDoor
open Go.ChangeShapes Go.WideShapes Go.ChangeAt Go.RowKit Gno
theorem cellsInt' : Tryz.prog.cellsOf 3 = 1 := by kernel_rfl
theorem cellsString' : Tryz.prog.cellsOf 9 = 1 := by kernel_rfl
theorem cellsPair : Tryz.prog.cellsOf 163 = 2 := by kernel_rfl
theorem cellsBook : Tryz.prog.cellsOf 43 = 3 := by kernel_rfl
theorem cellsPairs : Tryz.prog.cellsOf 41 = 1 := by kernel_rfl
section
variable {H : Type} {enc : TypeId × Value → H} {w : World} {base : Nat} {spare : Nat → Bool} {held : Bool}
end
end Go.Proofs.YtbbbeldbhlehnaaGreatDoor
end
section
set_option maxRecDepth 100000
namespace Go.Proofs.YtbbbeldbhlehnaaGreatDoor
open Go.ChangeShapes Go.WideShapes Go.ChangeAt Go.RowKit Gno
theorem cellsStringN' : Tryz.prog.cellsOf 9 = 1 := by kernel_rfl
section
variable {H : Type} {enc : TypeId × Value → H} {w : World} {base : Nat} {spare : Nat → Bool} {held : Bool}
theorem openStrs {b0 : Nat} {r : Reach} {v : Value} {d : DataW H} {p : List MemPlace}
 (hv : Value.okWide Tryz.prog w r b0 56 v) (h : DataW.Trod enc Tryz.prog w base spare held 56 v d p) :
 ∃ (A : Option Addr) (n cap : Nat) (l : List ByteArray), v = .slice A n cap ∧ StrsAt w w.heap.size A n l ∧ ∀ s ∈ l, s.size ≤ maxLen := by
 obtain ⟨A, n, cap, l, e, _, _, h4⟩ := open_slice_top (α := ByteArray) (sz := 1) Tryz.underlying56 cellsStringN' (by omega) (fun w B b o s => w.cell? ⟨b, o, none⟩ = some (.string s) ∧ s.size ≤ maxLen) (fun fuel cs x ht => by
  obtain ⟨s, e0, _, hs⟩ := DataW.trod_string Tryz.underlying9 ht
  subst e0
  exact ⟨s, rfl, fun b o hc => ⟨by have := hc 0 (by omega); simpa using this, hs⟩⟩) hv h
 refine ⟨A, n, cap, l, e, ⟨h4.1, h4.2.1, fun hp => ?_⟩, fun s hs => ?_⟩
 ·obtain ⟨b, o, h1, h2, h3⟩ := h4.2.2 hp
  exact ⟨b, o, h1, h2, fun i s hi => by have := (h3 i s hi).1; rwa [Nat.mul_one] at this⟩
 ·obtain ⟨i, hi, rfl⟩ := List.getElem_of_mem hs
  have hp : 0 < n := by rw [← h4.1]; omega
  obtain ⟨b, o, h1, h2, h3⟩ := h4.2.2 hp
  exact (h3 i _ (List.getElem?_eq_getElem hi)).2
end
end Go.Proofs.YtbbbeldbhlehnaaGreatDoor
end
