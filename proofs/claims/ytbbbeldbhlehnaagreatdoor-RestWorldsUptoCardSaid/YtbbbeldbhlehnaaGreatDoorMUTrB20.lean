/- Parts of a proof, laid together. -/
import Derived.Lib.Hide
import Derived.Lib.TrimU
import Derived.Lib.Atoi
import Derived.Lib.IndexMore
import Derived.Lib.Strings
import Derived.Lib.ItoaNum
set_option linter.unusedSimpArgs false
set_option linter.unusedVariables false
section
namespace Gno
def isYear (y : Int) : Bool := decide (1970 ≤ y ∧ y ≤ 2029)
def isMonth (m : Int) : Bool := decide (1 ≤ m ∧ m ≤ 12)
def lp (y : Int) : Int := if y % 4 = 0 then 1 else 0
def cum0 (m : Int) : Int :=
 if m ≤ 1 then 0 else if m = 2 then 31 else if m = 3 then 59 else if m = 4 then 90 else if m = 5 then 120 else if m = 6 then 151
 else if m = 7 then 181 else if m = 8 then 212 else if m = 9 then 243 else if m = 10 then 273 else if m = 11 then 304 else if m = 12 then 334 else 365
def aheadY (y m : Int) : Int := cum0 m + if 2 < m then lp y else 0
def begin_ (y : Int) : Int := 365 * (y - 1970) + (y - 1970 + 1) / 4
def size (y m : Int) : Int := aheadY y (m + 1) - aheadY y m
def isDate (y m d : Int) : Bool := decide ((1970 ≤ y ∧ y ≤ 2029) ∧ (1 ≤ m ∧ m ≤ 12) ∧ 1 ≤ d ∧ d ≤ size y m)
def num (y m d : Int) : Int := begin_ y + aheadY y m + d - 1
def isDay (n : Int) : Bool := decide (0 ≤ n ∧ n ≤ 21914)
theorem lp_01 (y : Int) : 0 ≤ lp y ∧ lp y ≤ 1 := by unfold lp; split <;> omega
theorem months {m : Int} (h1 : 1 ≤ m) (h2 : m ≤ 12) : m = 1 ∨ m = 2 ∨ m = 3 ∨ m = 4 ∨ m = 5 ∨ m = 6 ∨ m = 7 ∨ m = 8 ∨ m = 9 ∨ m = 10 ∨ m = 11 ∨ m = 12 := by omega
theorem cum0_bd (m : Int) : 0 ≤ cum0 m ∧ cum0 m ≤ 365 := by
 unfold cum0; repeat' split
 all_goals omega
theorem aheadY_bd (y m : Int) : 0 ≤ aheadY y m ∧ aheadY y m ≤ 366 := by
 have := cum0_bd m; have := lp_01 y
 unfold aheadY; split <;> omega
theorem begin_bd (y : Int) (h1 : 1970 ≤ y) (h2 : y ≤ 2030) : 0 ≤ begin_ y ∧ begin_ y ≤ 21915 := by unfold begin_; omega
theorem begin_succ (y : Int) : begin_ (y + 1) = begin_ y + 365 + lp y := by unfold begin_ lp; split <;> omega
theorem begin_1970 : begin_ 1970 = 0 := rfl
theorem size_is (y m : Int) (h1 : 1 ≤ m) (h2 : m ≤ 12) :
 size y m = if m = 2 then 28 + lp y else if m = 4 ∨ m = 6 ∨ m = 9 ∨ m = 11 then 30 else 31 := by
 rcases months h1 h2 with rfl | rfl | rfl | rfl | rfl | rfl | rfl | rfl | rfl | rfl | rfl | rfl <;> simp [size, aheadY, cum0] <;> omega
theorem size_bd (y m : Int) (h1 : 1 ≤ m) (h2 : m ≤ 12) : 28 ≤ size y m ∧ size y m ≤ 31 := by
 have := lp_01 y
 rw [size_is y m h1 h2]; repeat' split
 all_goals omega
theorem aheadY_succ (y m : Int) : aheadY y (m + 1) = aheadY y m + size y m := by unfold size; omega
theorem aheadY_one (y : Int) : aheadY y 1 = 0 := by simp [aheadY, cum0]
theorem aheadY_13 (y : Int) : aheadY y 13 = 365 + lp y := by simp [aheadY, cum0]
end Gno
end
section
namespace Gno
structure Eg where
 c : Nat
 «to» : Int
structure Nd where
 es : List Eg
 word : Int
def edOk (k len : Int) : Int → List Eg → Bool
 | _, [] => true
 | last, e :: r => decide (k < e.to) && decide (e.to < len) && decide (last < (e.c : Int)) && edOk k len e.c r
def ndOk (k len : Int) (n : Nd) : Bool := decide (-1 ≤ n.word) && edOk k len (-1) n.es
def ndsOk (len : Int) : Nat → List Nd → Bool
 | _, [] => true
 | k, n :: r => ndOk k len n && ndsOk len (k + 1) r
def trieOk (t : List Nd) : Bool := !t.isEmpty && ndsOk t.length 0 t
def trieE (t : List Nd) : Int := if trieOk t = true then 0 else 1
def edTo : List Eg → Nat → Int
 | [], _ => -1
 | e :: r, c => if e.c = c then e.to else edTo r c
def ndAt (t : List Nd) (i : Int) : Nd := (t[i.toNat]?).getD ⟨[], -1⟩
def goT (t : List Nd) : Int → List Nat → Int
 | a, [] => a
 | a, c :: r => if a < 0 then a else goT t (edTo (ndAt t a).es c) r
def findK (t : List Nd) (s : List Nat) : Int := if goT t 0 s < 0 then -1 else (ndAt t (goT t 0 s)).word
def lgK (t : List Nd) (s : List Nat) : Nat → Int
 | 0 => if 0 ≤ findK t (s.take 0) then findK t (s.take 0) else -1
 | n + 1 => if 0 ≤ findK t (s.take (n + 1)) then findK t (s.take (n + 1)) else lgK t s n
def lgN (t : List Nd) (s : List Nat) : Nat → Nat
 | 0 => 0
 | n + 1 => if 0 ≤ findK t (s.take (n + 1)) then n + 1 else lgN t s n
def insE : List Eg → Eg → List Eg
 | [], x => [x]
 | e :: r, x => if x.c < e.c then x :: e :: r else e :: insE r x
def stepT (t : List Nd) (a c : Nat) : List Nd := if edTo (ndAt t a).es c < 0 then t.set a ⟨insE (ndAt t a).es ⟨c, t.length⟩, (ndAt t a).word⟩ ++ [⟨[], -1⟩] else t
def stepA (t : List Nd) (a c : Nat) : Nat := if edTo (ndAt t a).es c < 0 then t.length else (edTo (ndAt t a).es c).toNat
def goBT : List Nd → Nat → List Nat → List Nd
 | t, _, [] => t
 | t, a, c :: r => goBT (stepT t a c) (stepA t a c) r
def goBA : List Nd → Nat → List Nat → Nat
 | _, a, [] => a
 | t, a, c :: r => goBA (stepT t a c) (stepA t a c) r
def markT (t : List Nd) (a k : Nat) : List Nd := if (ndAt t a).word < 0 then t.set a ⟨(ndAt t a).es, k⟩ else t
def addW (t : List Nd) (k : Nat) (s : List Nat) : List Nd := markT (goBT t 0 s) (goBA t 0 s) k
def buildF : List Nd → Nat → List (List Nat) → List Nd
 | t, _, [] => t
 | t, k, s :: r => buildF (addW t k s) (k + 1) r
def root : List Nd := [⟨[], -1⟩]
def buildL (l : List (List Nat)) : List Nd := buildF root 0 l
def ixF : List (List Nat) → List Nat → Int
 | [], _ => -1
 | x :: r, s => if x = s then 0 else if ixF r s < 0 then -1 else ixF r s + 1
theorem ixF_ge : ∀ (l : List (List Nat)) (s : List Nat), -1 ≤ ixF l s ∧ ixF l s < l.length
 | [], s => by simp [ixF]
 | x :: r, s => by
   have := ixF_ge r s
   unfold ixF
   simp only [List.length_cons]
   split
   ·omega
   ·split <;> omega
theorem ixF_at : ∀ (l : List (List Nat)) (s : List Nat), 0 ≤ ixF l s → l[(ixF l s).toNat]? = some s
 | [], s, h => by simp [ixF] at h
 | x :: r, s, h => by
   unfold ixF at h ⊢
   split
   ·rename_i e; rw [e]; rfl
   ·rename_i e
    rw [if_neg e] at h
    split
    ·rename_i e2; rw [if_pos e2] at h; omega
    ·rename_i e2
     have := ixF_at r s (by omega)
     rw [show (ixF r s + 1).toNat = (ixF r s).toNat + 1 by omega]
     simpa using this
theorem ixF_le : ∀ (l : List (List Nat)) (s : List Nat) (i : Nat), l[i]? = some s → 0 ≤ ixF l s ∧ ixF l s ≤ i
 | [], s, i, h => by simp at h
 | x :: r, s, 0, h => by
   obtain rfl : x = s := by simpa using h
   unfold ixF; simp
 | x :: r, s, i + 1, h => by
   have := ixF_le r s i (by simpa using h)
   unfold ixF
   split
   ·omega
   ·rw [if_neg (by omega)]; omega
theorem ixF_mem {l : List (List Nat)} {s : List Nat} : 0 ≤ ixF l s ↔ s ∈ l :=
 ⟨fun h => List.mem_of_getElem? (ixF_at l s h), fun h => by
  obtain ⟨i, hi⟩ := List.getElem?_of_mem h
  exact (ixF_le l s i hi).1⟩
theorem ixF_snoc (w s : List Nat) : ∀ l : List (List Nat), ixF (l ++ [w]) s = if 0 ≤ ixF l s then ixF l s else if w = s then l.length else -1
 | [] => by
   show (if w = s then (0 : Int) else if ixF [] s < 0 then -1 else ixF [] s + 1) = _
   simp [ixF]
 | x :: r => by
   have ih := ixF_snoc w s r
   have hg := ixF_ge r s
   have e1 : ∀ l', ixF (x :: l') s = if x = s then 0 else if ixF l' s < 0 then -1 else ixF l' s + 1 := fun _ => rfl
   rw [List.cons_append, e1, e1, ih]
   by_cases e : x = s
   ·simp [e]
   ·rw [if_neg e, if_neg e]
    by_cases h : 0 ≤ ixF r s
    ·rw [if_pos h, if_neg (by omega), if_pos (by omega)]
    ·rw [if_neg h, if_pos (c := ixF r s < 0) (by omega)]
     by_cases e2 : w = s
     ·rw [if_pos e2, if_pos e2, if_neg (by omega)]; simp
     ·rw [if_neg e2, if_neg e2]; simp
def Rise (l : List Eg) : Prop := l.Pairwise (fun a b => a.c < b.c)
theorem edTo_mem : ∀ {l : List Eg} {e : Eg}, Rise l → e ∈ l → edTo l e.c = e.to
 | [], e, _, h => by cases h
 | x :: r, e, hr, h => by
   obtain ⟨h1, h2⟩ := List.pairwise_cons.1 hr
   unfold edTo
   rcases List.mem_cons.1 h with rfl | h
   ·rw [if_pos rfl]
   ·have := h1 e h
    rw [if_neg (by omega)]
    exact edTo_mem h2 h
theorem edTo_some : ∀ {l : List Eg} {c : Nat}, (∃ e ∈ l, e.c = c ∧ edTo l c = e.to) ∨ ((∀ e ∈ l, e.c ≠ c) ∧ edTo l c = -1)
 | [], c => .inr ⟨(fun e h => by cases h), rfl⟩
 | x :: r, c => by
   unfold edTo
   by_cases hx : x.c = c
   ·rw [if_pos hx]; exact .inl ⟨x, List.mem_cons_self, hx, rfl⟩
   ·rw [if_neg hx]
    rcases edTo_some (l := r) (c := c) with ⟨e, h1, h2, h3⟩ | ⟨h1, h2⟩
    ·exact .inl ⟨e, List.mem_cons_of_mem _ h1, h2, h3⟩
    ·refine .inr ⟨fun e he => ?_, h2⟩
     rcases List.mem_cons.1 he with rfl | he
     ·exact hx
     ·exact h1 e he
theorem insE_mem {x : Eg} : ∀ {l : List Eg} {e : Eg}, e ∈ insE l x ↔ e = x ∨ e ∈ l
 | [], e => by simp [insE]
 | y :: r, e => by
   unfold insE
   split
   ·simp
   ·simp only [List.mem_cons, insE_mem (l := r)]
    constructor
    ·rintro (h | h | h)
     ·exact .inr (.inl h)
     ·exact .inl h
     ·exact .inr (.inr h)
    ·rintro (h | h | h)
     ·exact .inr (.inl h)
     ·exact .inl h
     ·exact .inr (.inr h)
theorem insE_rise {x : Eg} : ∀ {l : List Eg}, Rise l → (∀ e ∈ l, e.c ≠ x.c) → Rise (insE l x)
 | [], _, _ => by simp [insE, Rise]
 | y :: r, hr, hn => by
   obtain ⟨h1, h2⟩ := List.pairwise_cons.1 hr
   unfold insE
   split
   ·rename_i hlt
    refine List.pairwise_cons.2 ⟨fun e he => ?_, hr⟩
    rcases List.mem_cons.1 he with rfl | he
    ·exact hlt
    ·have := h1 e he; omega
   ·rename_i hge
    have hne := hn y List.mem_cons_self
    refine List.pairwise_cons.2 ⟨fun e he => ?_, insE_rise h2 fun e he => hn e (List.mem_cons_of_mem _ he)⟩
    rcases insE_mem.1 he with rfl | he
    ·omega
    ·exact h1 e he
theorem insE_len {x : Eg} : ∀ {l : List Eg}, (insE l x).length = l.length + 1
 | [] => rfl
 | y :: r => by
   unfold insE
   split
   ·rfl
   ·simp [insE_len (l := r)]
def cntE : List Eg → Nat → Nat
 | [], _ => 0
 | e :: r, c => if e.c < c then cntE r c + 1 else 0
theorem cntE_le : ∀ (l : List Eg) (c : Nat), cntE l c ≤ l.length
 | [], _ => Nat.le_refl _
 | e :: r, c => by
   have := cntE_le r c
   unfold cntE
   split <;> simp <;> omega
theorem cntE_low : ∀ {l : List Eg} {c i : Nat} {e : Eg}, i < cntE l c → l[i]? = some e → e.c < c
 | [], c, i, e, h, _ => by simp [cntE] at h
 | x :: r, c, 0, e, h, he => by
   obtain rfl : x = e := by simpa using he
   unfold cntE at h
   split at h
   ·assumption
   ·exact absurd h (by omega)
 | x :: r, c, i + 1, e, h, he => by
   unfold cntE at h
   split at h
   ·exact cntE_low (Nat.lt_of_succ_lt_succ h) (by simpa using he)
   ·exact absurd h (by omega)
theorem cntE_high : ∀ {l : List Eg} {c i : Nat} {e : Eg}, Rise l → cntE l c ≤ i → l[i]? = some e → c ≤ e.c
 | [], c, i, e, _, _, he => by simp at he
 | x :: r, c, i, e, hr, h, he => by
   obtain ⟨h1, h2⟩ := List.pairwise_cons.1 hr
   unfold cntE at h
   split at h
   ·cases i with
    | zero => exact absurd h (by omega)
    | succ i => exact cntE_high h2 (Nat.le_of_succ_le_succ h) (by simpa using he)
   ·cases i with
    | zero =>
      obtain rfl : x = e := by simpa using he
      omega
    | succ i =>
      have := h1 e (List.mem_of_getElem? (i := i) (by simpa using he))
      omega
theorem insE_cnt {x : Eg} : ∀ {l : List Eg}, Rise l → (∀ e ∈ l, e.c ≠ x.c) → insE l x = l.take (cntE l x.c) ++ x :: l.drop (cntE l x.c)
 | [], _, _ => rfl
 | y :: r, hr, hn => by
   obtain ⟨h1, h2⟩ := List.pairwise_cons.1 hr
   have hne := hn y List.mem_cons_self
   unfold insE cntE
   by_cases h : x.c < y.c
   ·rw [if_pos h, if_neg (by omega)]; rfl
   ·rw [if_neg h, if_pos (by omega), insE_cnt h2 fun e he => hn e (List.mem_cons_of_mem _ he)]
    simp
theorem edTo_cnt {l : List Eg} {c : Nat} (hr : Rise l) : (∃ e, l[cntE l c]? = some e ∧ e.c = c ∧ edTo l c = e.to) ∨ ((∀ e, l[cntE l c]? = some e → e.c ≠ c) ∧ (∀ e ∈ l, e.c ≠ c) ∧ edTo l c = -1) := by
 rcases edTo_some (l := l) (c := c) with ⟨e, h1, h2, h3⟩ | ⟨h1, h2⟩
 ·obtain ⟨i, hi⟩ := List.getElem?_of_mem h1
  have hlo : ¬ i < cntE l c := fun h => by have := cntE_low h hi; omega
  have hlt : cntE l c < l.length := by have := (List.getElem?_eq_some_iff.1 hi).1; omega
  have hg := List.getElem?_eq_getElem hlt
  have hh := cntE_high hr (Nat.le_refl _) hg
  by_cases hij : i = cntE l c
  ·rw [hij] at hi; exact .inl ⟨e, hi, h2, h3⟩
  ·have := List.pairwise_iff_getElem.1 hr (cntE l c) i hlt (List.getElem?_eq_some_iff.1 hi).1 (by omega)
   have he := (List.getElem?_eq_some_iff.1 hi).2
   rw [he] at this
   omega
 ·exact .inr ⟨fun e he => h1 e (List.mem_of_getElem? he), h1, h2⟩
end Gno
end
section
namespace Gno
theorem ndAt_of {t : List Nd} {i : Nat} {n : Nd} (h : t[i]? = some n) : ndAt t i = n := by
 unfold ndAt
 rw [show ((i : Int)).toNat = i by omega, h]; rfl
structure TrInv (t : List Nd) (P : List (List Nat)) (fw : List Nat → Int) : Prop where
 len : P.length = t.length
 zero : P[0]? = some []
 nodup : ∀ (i j : Nat) s, P[i]? = some s → P[j]? = some s → i = j
 rise : ∀ (i : Nat) n, t[i]? = some n → Rise n.es
 edge : ∀ (i : Nat) n s, t[i]? = some n → P[i]? = some s → ∀ e ∈ n.es, ∃ j : Nat, e.to = (j : Int) ∧ i < j ∧ P[j]? = some (s ++ [e.c])
 back : ∀ (j : Nat) s c, P[j]? = some (s ++ [c]) → ∃ (i : Nat) (n : Nd) (e : Eg), P[i]? = some s ∧ t[i]? = some n ∧ e ∈ n.es ∧ e.c = c ∧ e.to = (j : Int)
 word : ∀ (i : Nat) n s, t[i]? = some n → P[i]? = some s → n.word = fw s
theorem TrInv.node {t P fw} (h : TrInv t P fw) {i : Nat} {s : List Nat} (hi : P[i]? = some s) : ∃ n, t[i]? = some n := by
 have := (List.getElem?_eq_some_iff.1 hi).1
 exact ⟨t[i]'(by have := h.len; omega), List.getElem?_eq_getElem _⟩
theorem TrInv.to {t P fw} (h : TrInv t P fw) {i : Nat} {s : List Nat} (hi : P[i]? = some s) (c : Nat) :
 (∃ j : Nat, P[j]? = some (s ++ [c]) ∧ edTo (ndAt t i).es c = (j : Int) ∧ i < j) ∨ ((∀ j : Nat, P[j]? ≠ some (s ++ [c])) ∧ edTo (ndAt t i).es c = -1 ∧ ∀ e ∈ (ndAt t i).es, e.c ≠ c) := by
 obtain ⟨n, hn⟩ := h.node hi
 rw [ndAt_of hn]
 rcases edTo_some (l := n.es) (c := c) with ⟨e, h1, h2, h3⟩ | ⟨h1, h2⟩
 ·obtain ⟨j, hj, hlt, hp⟩ := h.edge i n s hn hi e h1
  rw [h2] at hp
  exact .inl ⟨j, hp, h3.trans hj, hlt⟩
 ·refine .inr ⟨fun j hj => ?_, h2, h1⟩
  obtain ⟨i', n', e, hi', hn', he, hc, _⟩ := h.back j s c hj
  obtain rfl := h.nodup _ _ _ hi hi'
  rw [hn] at hn'
  injection hn' with hn'
  subst hn'
  exact h1 e he hc
theorem snoc_ind {Q : List Nat → Prop} (h0 : Q []) (hs : ∀ s c, Q s → Q (s ++ [c])) (s : List Nat) : Q s := by
 have : ∀ r : List Nat, Q r.reverse := fun r => by
  induction r with
  | nil => exact h0
  | cons a r ih => rw [List.reverse_cons]; exact hs _ _ ih
 have := this s.reverse
 rwa [List.reverse_reverse] at this
theorem TrInv.pre {t P fw} (h : TrInv t P fw) (s r : List Nat) (hj : s ++ r ∈ P) : s ∈ P := by
 revert hj
 refine snoc_ind (Q := fun r => s ++ r ∈ P → s ∈ P) (by simp) ?_ r
 intro r c ih hj
 obtain ⟨j, hj⟩ := List.getElem?_of_mem hj
 rw [← List.append_assoc] at hj
 obtain ⟨i, _, _, hi, _⟩ := h.back j _ c hj
 exact ih (List.mem_of_getElem? hi)
theorem goT_neg (t : List Nd) {a : Int} (h : a < 0) (s : List Nat) : goT t a s = a := by
 cases s with
 | nil => rfl
 | cons c r => unfold goT; rw [if_pos h]
theorem TrInv.go {t P fw} (h : TrInv t P fw) : ∀ (r : List Nat) {i : Nat} {s : List Nat}, P[i]? = some s → (∃ j : Nat, P[j]? = some (s ++ r) ∧ goT t i r = (j : Int)) ∨ (s ++ r ∉ P ∧ goT t i r = -1)
 | [], i, s, hi => .inl ⟨i, by simpa using hi, rfl⟩
 | c :: r, i, s, hi => by
   have e : goT t i (c :: r) = goT t (edTo (ndAt t i).es c) r := by
    show (if (i : Int) < 0 then (i : Int) else goT t (edTo (ndAt t i).es c) r) = _
    rw [if_neg (by omega)]
   rw [e]
   rcases h.to hi c with ⟨j, hj, he, _⟩ | ⟨hno, he, _⟩
   ·rw [he]
    have := h.go r hj
    rwa [List.append_assoc, List.singleton_append] at this
   ·rw [he, goT_neg t (by omega)]
    refine .inr ⟨fun hm => ?_, rfl⟩
    have : (s ++ [c]) ++ r ∈ P := by rwa [List.append_assoc, List.singleton_append]
    obtain ⟨j, hj⟩ := List.getElem?_of_mem (h.pre _ _ this)
    exact hno j hj
theorem TrInv.find {t P fw} (h : TrInv t P fw) (hf : ∀ s, s ∉ P → fw s = -1) (s : List Nat) : findK t s = fw s := by
 unfold findK
 rcases h.go s h.zero with ⟨j, hj, he⟩ | ⟨hno, he⟩
 ·rw [List.nil_append] at hj
  rw [show goT t 0 s = (j : Int) from he, if_neg (by omega)]
  obtain ⟨n, hn⟩ := h.node hj
  rw [ndAt_of hn]
  exact h.word _ _ _ hn hj
 ·rw [List.nil_append] at hno
  rw [show goT t 0 s = -1 from he, if_pos (by omega), hf s hno]
theorem edOk_of {k len : Int} : ∀ {l : List Eg} {last : Int}, Rise l → (∀ e ∈ l, k < e.to ∧ e.to < len) → (∀ e ∈ l, last < (e.c : Int)) → edOk k len last l = true
 | [], _, _, _, _ => rfl
 | x :: r, last, hr, h1, h2 => by
   obtain ⟨ha, hb⟩ := List.pairwise_cons.1 hr
   have hx := h1 x List.mem_cons_self
   have hl := h2 x List.mem_cons_self
   unfold edOk
   rw [edOk_of hb (fun e he => h1 e (List.mem_cons_of_mem _ he)) fun e he => by have := ha e he; omega]
   simp [hx, hl]
theorem ndsOk_of {len : Int} : ∀ {t : List Nd} {k : Nat}, (∀ (i : Nat) n, t[i]? = some n → ndOk ((k + i : Nat) : Int) len n = true) → ndsOk len k t = true
 | [], _, _ => rfl
 | n :: r, k, h => by
   unfold ndsOk
   rw [show ndOk (k : Int) len n = true from h 0 n rfl, ndsOk_of (k := k + 1) fun i m hi => by rw [show k + 1 + i = k + (i + 1) by omega]; exact h (i + 1) m (by simpa using hi)]
   rfl
theorem TrInv.ok {t P fw} (h : TrInv t P fw) (hf : ∀ s, -1 ≤ fw s) : trieOk t = true := by
 unfold trieOk
 have hne : t ≠ [] := fun e => by
  have := (List.getElem?_eq_some_iff.1 h.zero).1
  rw [h.len, e] at this
  simp at this
 have h1 : t.isEmpty = false := by cases t with
  | nil => exact absurd rfl hne
  | cons _ _ => rfl
 rw [h1, ndsOk_of]
 ·rfl
 ·intro i n hi
  have hlt := (List.getElem?_eq_some_iff.1 hi).1
  have hP := List.getElem?_eq_getElem (l := P) (i := i) (by rw [h.len]; exact hlt)
  unfold ndOk
  rw [Nat.zero_add, edOk_of (h.rise i n hi)]
  ·rw [h.word i n _ hi hP]; simp [hf]
  ·intro e he
   obtain ⟨j, h1, h2, h3⟩ := h.edge i n _ hi hP e he
   have := (List.getElem?_eq_some_iff.1 h3).1
   have := h.len
   omega
  ·intro e he; omega
theorem get_snoc {α : Type} {l : List α} {x y : α} {i : Nat} (h : (l ++ [x])[i]? = some y) : l[i]? = some y ∨ (i = l.length ∧ x = y) := by
 by_cases hi : i < l.length
 ·rw [List.getElem?_append_left hi] at h; exact .inl h
 ·rw [List.getElem?_append_right (by omega)] at h
  by_cases he : i = l.length
  ·rw [he, Nat.sub_self] at h
   exact .inr ⟨he, by simpa using h⟩
  ·rw [List.getElem?_eq_none (by simp; omega)] at h; cases h
theorem set_get {α : Type} {l : List α} {a i : Nat} {x y : α} (h : (l.set a x)[i]? = some y) : (i = a ∧ x = y) ∨ (i ≠ a ∧ l[i]? = some y) := by
 rw [List.getElem?_set] at h
 split at h
 ·rename_i e
  split at h
  ·exact .inl ⟨e.symm, by simpa using h⟩
  ·cases h
 ·rename_i e; exact .inr ⟨fun q => e q.symm, h⟩
theorem TrInv.grow {t P fw} (h : TrInv t P fw) {a : Nat} {p : List Nat} (ha : P[a]? = some p) (c : Nat) (hno : ∀ j : Nat, P[j]? ≠ some (p ++ [c])) (hes : ∀ e ∈ (ndAt t a).es, e.c ≠ c) (hw : fw (p ++ [c]) = -1) :
 TrInv (t.set a ⟨insE (ndAt t a).es ⟨c, t.length⟩, (ndAt t a).word⟩ ++ [⟨[], -1⟩]) (P ++ [p ++ [c]]) fw := by
 obtain ⟨n0, hn0⟩ := h.node ha
 have halt := (List.getElem?_eq_some_iff.1 hn0).1
 rw [ndAt_of hn0] at hes ⊢
 have old : ∀ {i s}, P[i]? = some s → (P ++ [p ++ [c]])[i]? = some s := fun {i s} hi => by
  rw [List.getElem?_append_left (List.getElem?_eq_some_iff.1 hi).1]; exact hi
 refine ⟨by simp [h.len], old h.zero, ?_, ?_, ?_, ?_, ?_⟩
 ·intro i j s hi hj
  rcases get_snoc hi with hi | ⟨hi2, rfl⟩ <;> rcases get_snoc hj with hj | ⟨hj2, hs⟩
  ·exact h.nodup _ _ _ hi hj
  ·rw [← hs] at hi; exact absurd hi (hno i)
  ·exact absurd hj (hno j)
  ·omega
 ·intro i n hi
  rcases get_snoc hi with hi | ⟨_, rfl⟩
  ·rcases set_get hi with ⟨rfl, rfl⟩ | ⟨_, hi⟩
   ·exact insE_rise (h.rise _ _ hn0) hes
   ·exact h.rise _ _ hi
  ·exact List.Pairwise.nil
 ·intro i n s hi hP e he
  rcases get_snoc hi with hi | ⟨_, rfl⟩
  ·have hilt : i < t.length := by have := (List.getElem?_eq_some_iff.1 hi).1; simpa using this
   have hP' : P[i]? = some s := by
    rw [List.getElem?_append_left (by rw [h.len]; exact hilt)] at hP; exact hP
   rcases set_get hi with ⟨rfl, rfl⟩ | ⟨_, hi⟩
   ·rcases insE_mem.1 he with rfl | he
    ·rw [ha] at hP'
     injection hP' with hP'
     subst hP'
     exact ⟨t.length, rfl, hilt, by rw [List.getElem?_append_right (by rw [h.len]; omega), h.len, Nat.sub_self]; rfl⟩
    ·obtain ⟨j, h1, h2, h3⟩ := h.edge _ _ _ hn0 hP' e he
     exact ⟨j, h1, h2, old h3⟩
   ·obtain ⟨j, h1, h2, h3⟩ := h.edge _ _ _ hi hP' e he
    exact ⟨j, h1, h2, old h3⟩
  ·cases he
 ·intro j s c' hj
  rcases get_snoc hj with hj | ⟨hj2, hs⟩
  ·obtain ⟨i, n, e, h1, h2, h3, h4, h5⟩ := h.back j s c' hj
   by_cases hia : i = a
   ·subst hia
    rw [hn0] at h2
    injection h2 with h2
    subst h2
    exact ⟨i, _, e, old h1, by rw [List.getElem?_append_left (by simpa using halt), List.getElem?_set_self halt], insE_mem.2 (.inr h3), h4, h5⟩
   ·have := (List.getElem?_eq_some_iff.1 h2).1
    exact ⟨i, n, e, old h1, by rw [List.getElem?_append_left (by simpa using this), List.getElem?_set_ne (fun q => hia q.symm)]; exact h2, h3, h4, h5⟩
  ·obtain ⟨rfl, rfl⟩ := List.append_inj' hs rfl |>.imp id (fun q => by simpa using q)
   exact ⟨a, _, ⟨c, t.length⟩, old ha, by rw [List.getElem?_append_left (by simpa using halt), List.getElem?_set_self halt], insE_mem.2 (.inl rfl), rfl, by rw [hj2, h.len]⟩
 ·intro i n s hi hP
  rcases get_snoc hi with hi | ⟨hi2, rfl⟩
  ·have hilt : i < t.length := by have := (List.getElem?_eq_some_iff.1 hi).1; simpa using this
   have hP' : P[i]? = some s := by
    rw [List.getElem?_append_left (by rw [h.len]; exact hilt)] at hP; exact hP
   rcases set_get hi with ⟨rfl, rfl⟩ | ⟨_, hi⟩
   ·show n0.word = _
    exact h.word _ _ _ hn0 hP'
   ·exact h.word _ _ _ hi hP'
  ·rw [List.length_set] at hi2
   rw [List.getElem?_append_right (by rw [h.len, hi2]; exact Nat.le_refl _), hi2, h.len, Nat.sub_self] at hP
   have hq : p ++ [c] = s := by simpa using hP
   rw [← hq, hw]
theorem TrInv.walk {fw} : ∀ (r : List Nat) {t P} (h : TrInv t P fw) {a : Nat} {p : List Nat}, P[a]? = some p → (∀ q, q ∉ P → fw q = -1) →
 ∃ P', TrInv (goBT t a r) P' fw ∧ P'[goBA t a r]? = some (p ++ r) ∧ (∀ q, q ∈ P' ↔ q ∈ P ∨ ∃ x, x <+: r ∧ q = p ++ x) ∧ (goBT t a r).length ≤ t.length + r.length
 | [], t, P, h, a, p, ha, hf => ⟨P, h, by simpa [goBA] using ha, fun q => ⟨.inl, fun hq => by
  rcases hq with hq | ⟨x, hx, rfl⟩
  ·exact hq
  ·rw [List.prefix_nil] at hx
   subst hx
   rw [List.append_nil]; exact List.mem_of_getElem? ha⟩, by simp [goBT]⟩
 | c :: r, t, P, h, a, p, ha, hf => by
   unfold goBT goBA
   rcases h.to ha c with ⟨j, hj, he, _⟩ | ⟨hno, he, hes⟩
   ·have hT : stepT t a c = t := by unfold stepT; rw [if_neg (by omega)]
    have hA : stepA t a c = j := by unfold stepA; rw [if_neg (by omega), he]; omega
    rw [hT, hA]
    obtain ⟨P', h1, h2, h3, h4⟩ := TrInv.walk r h hj hf
    refine ⟨P', h1, by rwa [List.append_assoc, List.singleton_append] at h2, fun q => ?_, by simp; omega⟩
    rw [h3]
    constructor
    ·rintro (hq | ⟨x, hx, rfl⟩)
     ·exact .inl hq
     ·exact .inr ⟨c :: x, List.cons_prefix_cons.2 ⟨rfl, hx⟩, by simp⟩
    ·rintro (hq | ⟨x, hx, rfl⟩)
     ·exact .inl hq
     ·cases x with
      | nil => rw [List.append_nil]; exact .inl (List.mem_of_getElem? ha)
      | cons d x =>
        obtain ⟨rfl, hx2⟩ := List.cons_prefix_cons.1 hx
        exact .inr ⟨x, hx2, by simp⟩
   ·have hT : stepT t a c = t.set a ⟨insE (ndAt t a).es ⟨c, t.length⟩, (ndAt t a).word⟩ ++ [⟨[], -1⟩] := by unfold stepT; rw [if_pos (by omega)]
    have hA : stepA t a c = t.length := by unfold stepA; rw [if_pos (by omega)]
    rw [hT, hA]
    have hpc : p ++ [c] ∉ P := fun hm => by obtain ⟨j, hj⟩ := List.getElem?_of_mem hm; exact hno j hj
    have hg := h.grow ha c hno hes (hf _ hpc)
    obtain ⟨P', h1, h2, h3, h4⟩ := TrInv.walk r hg (a := t.length) (p := p ++ [c]) (by rw [List.getElem?_append_right (by rw [h.len]; omega), h.len, Nat.sub_self]; rfl) (fun q hq => hf q fun hm => hq (List.mem_append_left _ hm))
    refine ⟨P', h1, by rwa [List.append_assoc, List.singleton_append] at h2, fun q => ?_, by simp at h4 ⊢; omega⟩
    rw [h3, List.mem_append]
    constructor
    ·rintro ((hq | hq) | ⟨x, hx, rfl⟩)
     ·exact .inl hq
     ·exact .inr ⟨[c], List.cons_prefix_cons.2 ⟨rfl, List.nil_prefix⟩, by simpa using hq⟩
     ·exact .inr ⟨c :: x, List.cons_prefix_cons.2 ⟨rfl, hx⟩, by simp⟩
    ·rintro (hq | ⟨x, hx, rfl⟩)
     ·exact .inl (.inl hq)
     ·cases x with
      | nil => rw [List.append_nil]; exact .inl (.inl (List.mem_of_getElem? ha))
      | cons d x =>
        obtain ⟨rfl, hx2⟩ := List.cons_prefix_cons.1 hx
        exact .inr ⟨x, hx2, by simp⟩
theorem TrInv.mark {t P fw} (h : TrInv t P fw) {a : Nat} {p : List Nat} (ha : P[a]? = some p) (k : Nat) :
 TrInv (markT t a k) P (fun s => if 0 ≤ fw s then fw s else if p = s then (k : Int) else fw s) := by
 obtain ⟨n0, hn0⟩ := h.node ha
 have hw0 := h.word _ _ _ hn0 ha
 unfold markT
 rw [ndAt_of hn0]
 by_cases hneg : n0.word < 0
 ·rw [if_pos hneg]
  refine ⟨by simp [h.len], h.zero, h.nodup, ?_, ?_, ?_, ?_⟩
  ·intro i n hi
   rcases set_get hi with ⟨rfl, rfl⟩ | ⟨_, hi⟩
   ·show Rise n0.es
    exact h.rise _ _ hn0
   ·exact h.rise _ _ hi
  ·intro i n s hi hP e he
   rcases set_get hi with ⟨rfl, rfl⟩ | ⟨_, hi⟩
   ·exact h.edge _ n0 _ hn0 hP e he
   ·exact h.edge _ _ _ hi hP e he
  ·intro j s c hj
   obtain ⟨i, n, e, h1, h2, h3, h4, h5⟩ := h.back j s c hj
   by_cases hia : i = a
   ·subst hia
    rw [hn0] at h2
    injection h2 with h2
    subst h2
    exact ⟨i, _, e, h1, List.getElem?_set_self (List.getElem?_eq_some_iff.1 hn0).1, h3, h4, h5⟩
   ·exact ⟨i, n, e, h1, by rw [List.getElem?_set_ne (fun q => hia q.symm)]; exact h2, h3, h4, h5⟩
  ·intro i n s hi hP
   rcases set_get hi with ⟨rfl, rfl⟩ | ⟨hia, hi⟩
   ·rw [ha] at hP
    injection hP with hP
    subst hP
    show (k : Int) = if 0 ≤ fw p then fw p else if p = p then (k : Int) else fw p
    rw [if_neg (by omega), if_pos rfl]
   ·show n.word = if 0 ≤ fw s then fw s else if p = s then (k : Int) else fw s
    have := h.word _ _ _ hi hP
    by_cases h0 : 0 ≤ fw s
    ·rw [if_pos h0]; exact this
    ·rw [if_neg h0, if_neg (fun q => hia (h.nodup _ _ _ (by rw [← q] at hP; exact hP) ha))]; exact this
 ·rw [if_neg hneg]
  refine ⟨h.len, h.zero, h.nodup, h.rise, h.edge, h.back, fun i n s hi hP => ?_⟩
  show n.word = if 0 ≤ fw s then fw s else if p = s then (k : Int) else fw s
  have := h.word _ _ _ hi hP
  by_cases h0 : 0 ≤ fw s
  ·rw [if_pos h0]; exact this
  ·rw [if_neg h0]
   by_cases hs : p = s
   ·rw [← hs] at h0; omega
   ·rw [if_neg hs]; exact this
theorem markT_len (t : List Nd) (a k : Nat) : (markT t a k).length = t.length := by unfold markT; split <;> simp
def bytesN : List (List Nat) → Nat
 | [] => 0
 | s :: r => s.length + bytesN r
theorem buildF_inv : ∀ (l W : List (List Nat)) {t P} (h : TrInv t P (ixF W)) (hm : ∀ q, q ∈ P ↔ q = [] ∨ ∃ w ∈ W, q <+: w),
 ∃ P', TrInv (buildF t W.length l) P' (ixF (W ++ l)) ∧ (∀ q, q ∈ P' ↔ q = [] ∨ ∃ w ∈ W ++ l, q <+: w) ∧ (buildF t W.length l).length ≤ t.length + bytesN l
 | [], W, t, P, h, hm => ⟨P, by rw [List.append_nil]; exact h, by rw [List.append_nil]; exact hm, by simp [buildF, bytesN]⟩
 | s :: r, W, t, P, h, hm => by
   have hf : ∀ q, q ∉ P → ixF W q = -1 := fun q hq => by
    have h1 : ¬ 0 ≤ ixF W q := fun h0 => hq ((hm q).2 (.inr ⟨q, ixF_mem.1 h0, List.prefix_rfl⟩))
    have := (ixF_ge W q).1
    omega
   obtain ⟨P1, h1, h2, h3, h4⟩ := TrInv.walk s h h.zero hf
   rw [List.nil_append] at h2
   have hk := h1.mark h2 W.length
   have hfw : (fun q => if 0 ≤ ixF W q then ixF W q else if s = q then (W.length : Int) else ixF W q) = ixF (W ++ [s]) := by
    funext q
    rw [ixF_snoc]
    have := (ixF_ge W q).1
    by_cases h0 : 0 ≤ ixF W q
    ·rw [if_pos h0, if_pos h0]
    ·rw [if_neg h0, if_neg h0]
     by_cases hs : s = q
     ·rw [if_pos hs, if_pos hs]
     ·rw [if_neg hs, if_neg hs]; omega
   rw [hfw] at hk
   obtain ⟨P2, k1, k2, k3⟩ := buildF_inv r (W ++ [s]) (t := addW t W.length s) hk (fun q => by
    rw [h3, hm]
    constructor
    ·rintro ((hq | ⟨w, hw, hq⟩) | ⟨x, hx, rfl⟩)
     ·exact .inl hq
     ·exact .inr ⟨w, List.mem_append_left _ hw, hq⟩
     ·exact .inr ⟨s, by simp, by simpa using hx⟩
    ·rintro (hq | ⟨w, hw, hq⟩)
     ·exact .inl (.inl hq)
     ·rcases List.mem_append.1 hw with hw | hw
      ·exact .inl (.inr ⟨w, hw, hq⟩)
      ·obtain rfl : w = s := by simpa using hw
       exact .inr ⟨q, hq, by simp⟩)
   rw [List.length_append, List.length_singleton] at k1 k3
   rw [List.append_assoc, List.singleton_append] at k1 k2
   refine ⟨P2, k1, k2, ?_⟩
   have : (addW t W.length s).length ≤ t.length + s.length := by unfold addW; rw [markT_len]; exact h4
   show (buildF (addW t W.length s) (W.length + 1) r).length ≤ _
   unfold bytesN
   omega
theorem root_inv : TrInv root [[]] (ixF []) := by
 refine ⟨rfl, rfl, ?_, ?_, ?_, ?_, ?_⟩
 ·intro i j s hi hj
  have := (List.getElem?_eq_some_iff.1 hi).1
  have := (List.getElem?_eq_some_iff.1 hj).1
  simp at *
  omega
 ·intro i n hi
  have h := (List.getElem?_eq_some_iff.1 hi).1
  obtain rfl : i = 0 := by simp [root] at h; omega
  obtain rfl : (⟨[], -1⟩ : Nd) = n := by simpa [root] using hi
  exact List.Pairwise.nil
 ·intro i n s hi hP e he
  have h := (List.getElem?_eq_some_iff.1 hi).1
  obtain rfl : i = 0 := by simp [root] at h; omega
  obtain rfl : (⟨[], -1⟩ : Nd) = n := by simpa [root] using hi
  cases he
 ·intro j s c hj
  have h := (List.getElem?_eq_some_iff.1 hj).1
  obtain rfl : j = 0 := by simp at h; omega
  simp at hj
 ·intro i n s hi hP
  have h := (List.getElem?_eq_some_iff.1 hi).1
  obtain rfl : i = 0 := by simp [root] at h; omega
  obtain rfl : (⟨[], -1⟩ : Nd) = n := by simpa [root] using hi
  rfl
theorem buildL_inv (l : List (List Nat)) : ∃ P, TrInv (buildL l) P (ixF l) ∧ (∀ q, q ∈ P ↔ q = [] ∨ ∃ w ∈ l, q <+: w) ∧ (buildL l).length ≤ 1 + bytesN l := by
 obtain ⟨P, h1, h2, h3⟩ := buildF_inv l [] (t := root) (P := [[]]) root_inv (by simp)
 exact ⟨P, h1, by simpa using h2, h3⟩
theorem buildL_find (l : List (List Nat)) (s : List Nat) : findK (buildL l) s = ixF l s := by
 obtain ⟨P, h1, h2, _⟩ := buildL_inv l
 refine h1.find (fun q hq => ?_) s
 have h3 : ¬ 0 ≤ ixF l q := fun h0 => hq ((h2 q).2 (.inr ⟨q, ixF_mem.1 h0, List.prefix_rfl⟩))
 have := (ixF_ge l q).1
 omega
theorem buildL_ok (l : List (List Nat)) : trieOk (buildL l) = true := by
 obtain ⟨P, h1, _⟩ := buildL_inv l
 exact h1.ok fun s => (ixF_ge l s).1
end Gno
end
section
namespace Gno
def yOf (n : Int) : Int := 1970 + (4 * n + 2) / 1461
def scan (f : Int → Int) (r : Int) : Nat → Int → Int
 | 0, m => m
 | k + 1, m => if r < f (m + 1) then m else scan f r k (m + 1)
theorem scan_spec (f : Int → Int) (r : Int) : ∀ (k : Nat) (m : Int), f m ≤ r → r < f (m + k + 1) →
 m ≤ scan f r k m ∧ scan f r k m ≤ m + k ∧ f (scan f r k m) ≤ r ∧ r < f (scan f r k m + 1)
 | 0, m, h1, h2 => by
   simp only [scan]
   exact ⟨by omega, by omega, h1, by simpa using h2⟩
 | k + 1, m, h1, h2 => by
   simp only [scan]
   by_cases h : r < f (m + 1)
   ·rw [if_pos h]
    exact ⟨by omega, by omega, h1, h⟩
   ·rw [if_neg h]
    have ih := scan_spec f r k (m + 1) (by omega) (by rw [show m + 1 + (k : Int) + 1 = m + ((k + 1 : Nat) : Int) + 1 by omega]; exact h2)
    exact ⟨by omega, by omega, ih.2.2.1, ih.2.2.2⟩
def mOfIn (y r : Int) : Int := scan (aheadY y) r 11 1
def mOf (n : Int) : Int := mOfIn (yOf n) (n - begin_ (yOf n))
def dOf (n : Int) : Int := n - begin_ (yOf n) - aheadY (yOf n) (mOf n) + 1
theorem yOf_eq (n y : Int) (h1 : begin_ y ≤ n) (h2 : n < begin_ (y + 1)) : yOf n = y := by unfold begin_ at h1 h2; unfold yOf; omega
theorem aheadY_mono_nat (y a : Int) (h1 : 1 ≤ a) : ∀ n : Nat, a + n ≤ 13 → aheadY y a ≤ aheadY y (a + n)
 | 0, _ => by simp
 | n + 1, h => by
   have ih := aheadY_mono_nat y a h1 n (by omega)
   have hs := aheadY_succ y (a + n)
   have hb := size_bd y (a + n) (by omega) (by omega)
   rw [show a + ((n + 1 : Nat) : Int) = a + n + 1 by omega]
   omega
theorem aheadY_mono (y a b : Int) (h1 : 1 ≤ a) (h2 : a ≤ b) (h3 : b ≤ 13) : aheadY y a ≤ aheadY y b := by
 have := aheadY_mono_nat y a h1 (b - a).toNat (by omega)
 rw [show a + ((b - a).toNat : Int) = b by omega] at this
 exact this
theorem mOfIn_spec (y r : Int) (h1 : 0 ≤ r) (h2 : r < 365 + lp y) :
 1 ≤ mOfIn y r ∧ mOfIn y r ≤ 12 ∧ aheadY y (mOfIn y r) ≤ r ∧ r < aheadY y (mOfIn y r + 1) := by
 have h := scan_spec (aheadY y) r 11 1 (by rw [aheadY_one]; exact h1) (by rw [show (1 : Int) + ((11 : Nat) : Int) + 1 = 13 from rfl, aheadY_13]; exact h2)
 unfold mOfIn
 exact ⟨h.1, by omega, h.2.2.1, h.2.2.2⟩
theorem mOfIn_eq (y r m : Int) (h1 : 1 ≤ m) (h2 : m ≤ 12) (h3 : aheadY y m ≤ r) (h4 : r < aheadY y (m + 1)) : mOfIn y r = m := by
 have a0 := aheadY_mono y 1 m (by omega) h1 (by omega)
 have a1 := aheadY_mono y (m + 1) 13 (by omega) (by omega) (by omega)
 rw [aheadY_one] at a0
 rw [aheadY_13] at a1
 obtain ⟨m1, m2, m3, m4⟩ := mOfIn_spec y r (by omega) (by omega)
 rcases Int.lt_trichotomy (mOfIn y r) m with h | h | h
 ·have := aheadY_mono y (mOfIn y r + 1) m (by omega) (by omega) (by omega)
  omega
 ·exact h
 ·have := aheadY_mono y (m + 1) (mOfIn y r) (by omega) (by omega) (by omega)
  omega
theorem isDate_iff (y m d : Int) : isDate y m d = true ↔ (1970 ≤ y ∧ y ≤ 2029) ∧ (1 ≤ m ∧ m ≤ 12) ∧ 1 ≤ d ∧ d ≤ size y m := by simp [isDate]
theorem isDay_iff (n : Int) : isDay n = true ↔ 0 ≤ n ∧ n ≤ 21914 := by simp [isDay]
theorem aheadY_le_year (y m : Int) (h1 : 1 ≤ m) (h2 : m ≤ 12) : 0 ≤ aheadY y m ∧ aheadY y (m + 1) ≤ 365 + lp y := by
 have a0 := aheadY_mono y 1 m (by omega) h1 (by omega)
 have a1 := aheadY_mono y (m + 1) 13 (by omega) (by omega) (by omega)
 rw [aheadY_one] at a0
 rw [aheadY_13] at a1
 exact ⟨a0, a1⟩
theorem day_of (y m d : Int) (h : isDate y m d = true) : isDay (num y m d) = true ∧ yOf (num y m d) = y ∧ mOf (num y m d) = m ∧ dOf (num y m d) = d := by
 obtain ⟨⟨y1, y2⟩, ⟨m1, m2⟩, d1, d2⟩ := (isDate_iff y m d).1 h
 obtain ⟨a1, a2⟩ := aheadY_le_year y m m1 m2
 have a3 := aheadY_succ y m
 have e1 : yOf (num y m d) = y := yOf_eq _ _ (by unfold num; omega) (by rw [begin_succ]; unfold num; omega)
 have e2 : mOf (num y m d) = m := by
  unfold mOf
  rw [e1]
  exact mOfIn_eq _ _ _ m1 m2 (by unfold num; omega) (by unfold num; omega)
 have b1 := begin_bd y y1 (by omega)
 have b2 := begin_bd (y + 1) (by omega) (by omega)
 rw [begin_succ] at b2
 refine ⟨(isDay_iff _).2 ⟨?_, ?_⟩, e1, e2, ?_⟩
 ·unfold num; omega
 ·unfold num; omega
 ·unfold dOf
  rw [e2, e1]
  unfold num
  omega
def yearDays (y : Int) : Int := if y % 4 = 0 then 366 else 365
theorem yearDays_is (y : Int) : yearDays y = 365 + lp y := by unfold yearDays lp; split <;> rfl
end Gno
end
section
namespace Gno
open Go Go.Lib
def idxR (p : Nat → Bool) (s : ByteArray) : Nat → Nat → Int
 | 0, _ => -1
 | f + 1, pos => if pos < s.size then (if p (Utf8.decode s pos).1 = true then (pos : Int) else idxR p s f (pos + (Utf8.decode s pos).2)) else -1
theorem idxR_end (p : Nat → Bool) (s : ByteArray) (f pos : Nat) (h : ¬ pos < s.size) : idxR p s f pos = -1 := by cases f <;> simp [idxR, h]
def hasRune (p : Nat → Bool) (s : ByteArray) : Bool := decide (0 ≤ idxR p s s.size 0)
theorem dec_low (n b0 b1 b2 b3 : Nat) (h : b0 < 128) : decodeN n b0 b1 b2 b3 = (b0, 1) := by unfold decodeN; rw [if_pos h]
theorem dec_high (n b0 b1 b2 b3 : Nat) (h : 128 ≤ b0) : 128 ≤ (decodeN n b0 b1 b2 b3).1 := by
 unfold decodeN
 rw [if_neg (by omega)]
 split
 ·split
  ·simp only; omega
  ·simp
 ·split
  ·split
   ·simp only; omega
   ·simp
  ·split
   ·split
    ·simp only; omega
    ·simp
   ·simp
theorem idxR_iff (p : Nat → Bool) (hp : ∀ r, 128 ≤ r → p r = true) (s : ByteArray) : ∀ (f pos : Nat), s.size ≤ pos + f → (0 ≤ idxR p s f pos ↔ ∃ i, pos ≤ i ∧ i < s.size ∧ p (s.get! i).toNat = true)
 | 0, pos, h => by
   constructor
   ·intro h'; simp [idxR] at h'
   ·rintro ⟨i, h1, h2, _⟩; omega
 | f + 1, pos, h => by
   by_cases hps : pos < s.size
   ·simp only [idxR, hps, if_true]
    have hd := decode_at s pos
    by_cases hlo : (s.get! pos).toNat < 128
    ·rw [dec_low _ _ _ _ _ hlo] at hd
     rw [hd]
     simp only
     cases hpb : p (s.get! pos).toNat
     ·rw [if_neg (by simp)]
      rw [idxR_iff p hp s f (pos + 1) (by omega)]
      constructor
      ·rintro ⟨i, h1, h2, h3⟩; exact ⟨i, by omega, h2, h3⟩
      ·rintro ⟨i, h1, h2, h3⟩
       refine ⟨i, ?_, h2, h3⟩
       rcases Nat.lt_or_ge pos i with h4 | h4
       ·omega
       ·have : i = pos := by omega
        rw [this, hpb] at h3
        cases h3
     ·rw [if_pos rfl]
      exact ⟨fun _ => ⟨pos, Nat.le_refl _, hps, hpb⟩, fun _ => by omega⟩
    ·have hh : 128 ≤ (Utf8.decode s pos).1 := by rw [hd]; exact dec_high _ _ _ _ _ (by omega)
     rw [if_pos (hp _ hh)]
     exact ⟨fun _ => ⟨pos, Nat.le_refl _, hps, hp _ (by omega)⟩, fun _ => by omega⟩
   ·rw [idxR_end _ _ _ _ hps]
    constructor
    ·intro h'; omega
    ·rintro ⟨i, h1, h2, _⟩; omega
theorem get_list (s : ByteArray) (i : Nat) (h : i < s.size) : s.get! i = s.data.toList[i]'(by simpa using h) := by
 obtain ⟨a⟩ := s
 have h' : i < a.size := h
 show a[i]! = a.toList[i]
 rw [getElem!_pos a i h']
 simp
theorem hasRune_any (p : Nat → Bool) (hp : ∀ r, 128 ≤ r → p r = true) (s : ByteArray) : hasRune p s = s.data.toList.any fun b => p b.toNat := by
 rw [Bool.eq_iff_iff, List.any_eq_true]
 unfold hasRune
 rw [decide_eq_true_iff, idxR_iff p hp s s.size 0 (by omega)]
 constructor
 ·rintro ⟨i, _, h2, h3⟩
  rw [get_list s i h2] at h3
  exact ⟨_, List.getElem_mem _, h3⟩
 ·rintro ⟨b, hb, h⟩
  obtain ⟨i, hi, rfl⟩ := List.getElem_of_mem hb
  have hi' : i < s.size := by simpa using hi
  exact ⟨i, by omega, hi', by rw [get_list s i hi']; exact h⟩
def isLet (n : Nat) : Bool := decide (65 ≤ n ∧ n ≤ 90) || decide (97 ≤ n ∧ n ≤ 122)
def notLet (n : Nat) : Bool := !isLet n
theorem notLet_high (r : Nat) (h : 128 ≤ r) : notLet r = true := by simp [notLet, isLet]; omega
def allLet (s : ByteArray) : Bool := s.data.toList.all fun b => isLet b.toNat
theorem hasRune_notLet (s : ByteArray) : hasRune notLet s = !allLet s := by
 rw [hasRune_any _ notLet_high, allLet, List.not_all_eq_any_not]
 rfl
end Gno
end
section
namespace Gno
end Gno
end
section
namespace Gno
def onE (k w d : Int) : Int :=
 if k = 1 then (if w = 0 ∧ 1 ≤ d ∧ d ≤ 31 then 0 else 3)
 else if k = 2 then (if (0 ≤ w ∧ w ≤ 6) ∧ d = 0 then 0 else 3)
 else if k = 3 then (if (0 ≤ w ∧ w ≤ 6) ∧ 1 ≤ d ∧ d ≤ 31 then 0 else 3)
 else 8
def pickR (k w d c s : Int) : Int :=
 if k = 2 then s - ((c + s) % 7 - w + 7) % 7 else if k = 3 then d + (w - (c + d) % 7 + 7) % 7 else d
def pick1 (y m : Int) : Int := num y m 1 + 3
def isYM (y m : Int) : Bool := isYear y && isMonth m
def findR (y m k w d : Int) : Int := pickR k w d (pick1 y m) (size y m)
def findE (y m k w d : Int) : Int :=
 if onE k w d ≠ 0 then onE k w d else if isYM y m = false then 3 else if size y m < findR y m k w d then 4 else 0
def findN (y m k w d : Int) : Int :=
 if onE k w d ≠ 0 then 0 else if isYM y m = false then 0 else if size y m < findR y m k w d then 0 else findR y m k w d
theorem onE_ok {k w d : Int} (h : onE k w d = 0) : (k = 1 ∧ w = 0 ∧ 1 ≤ d ∧ d ≤ 31) ∨ (k = 2 ∧ (0 ≤ w ∧ w ≤ 6) ∧ d = 0) ∨ (k = 3 ∧ (0 ≤ w ∧ w ≤ 6) ∧ 1 ≤ d ∧ d ≤ 31) := by
 unfold onE at h
 by_cases h1 : k = 1
 ·rw [if_pos h1] at h
  split at h
  ·exact .inl ⟨h1, by assumption⟩
  ·omega
 ·rw [if_neg h1] at h
  by_cases h2 : k = 2
  ·rw [if_pos h2] at h
   split at h
   ·exact .inr (.inl ⟨h2, by assumption⟩)
   ·omega
  ·rw [if_neg h2] at h
   by_cases h3 : k = 3
   ·rw [if_pos h3] at h
    split at h
    ·exact .inr (.inr ⟨h3, by assumption⟩)
    ·omega
   ·rw [if_neg h3] at h
    omega
theorem last_is (w d c s : Int) (h1 : 0 ≤ w) (h2 : w ≤ 6) : s - 6 ≤ pickR 2 w d c s ∧ pickR 2 w d c s ≤ s ∧ (c + pickR 2 w d c s) % 7 = w ∧ ∀ j, pickR 2 w d c s < j → j ≤ s → (c + j) % 7 ≠ w := by
 unfold pickR
 rw [if_pos rfl]
 refine ⟨by omega, by omega, by omega, fun j h3 h4 => by omega⟩
theorem after_is (w d c s : Int) (h1 : 0 ≤ w) (h2 : w ≤ 6) : d ≤ pickR 3 w d c s ∧ pickR 3 w d c s ≤ d + 6 ∧ (c + pickR 3 w d c s) % 7 = w ∧ ∀ j, d ≤ j → j < pickR 3 w d c s → (c + j) % 7 ≠ w := by
 unfold pickR
 rw [if_neg (by omega), if_pos rfl]
 refine ⟨by omega, by omega, by omega, fun j h3 h4 => by omega⟩
theorem exact_is (w d c s : Int) : pickR 1 w d c s = d := by unfold pickR; rw [if_neg (by omega), if_neg (by omega)]
theorem num_pick (y m j : Int) : num y m j + 4 = pick1 y m + j := by unfold pick1 num; omega
theorem weekOf_pick (y m j : Int) : (num y m j + 4) % 7 = (pick1 y m + j) % 7 := by rw [num_pick]
def acc1 (d j f : Int) : Prop := f = if d < j then d else 0
def acc2 (R j f : Int) : Prop := 0 ≤ f ∧ (R < j → f = R)
def acc3 (R j f : Int) : Prop := f = if R < j then R else 0
theorem acc1_set {d j : Int} (h : j = d) : acc1 d (j + 1) j := by unfold acc1; rw [if_pos (by omega)]; exact h
theorem acc1_keep {d j f : Int} (h : acc1 d j f) (hj : ¬ j = d) : acc1 d (j + 1) f := by
 unfold acc1 at h ⊢
 rw [h]
 by_cases h1 : d < j
 ·rw [if_pos h1, if_pos (by omega)]
 ·rw [if_neg h1, if_neg (by omega)]
theorem acc2_set {w c s j : Int} (h1 : 0 ≤ w) (h2 : w ≤ 6) (hj : 0 ≤ j) (hs : j ≤ s) (hm : (c + j) % 7 = w) : acc2 (pickR 2 w 0 c s) (j + 1) j := by
 obtain ⟨_, _, _, l4⟩ := last_is w 0 c s h1 h2
 refine ⟨hj, fun h => ?_⟩
 rcases Int.lt_or_le (pickR 2 w 0 c s) j with h' | h'
 ·exact absurd hm (l4 j h' hs)
 ·omega
theorem acc2_keep {w c s j f : Int} (h1 : 0 ≤ w) (h2 : w ≤ 6) (h : acc2 (pickR 2 w 0 c s) j f) (hm : ¬ (c + j) % 7 = w) : acc2 (pickR 2 w 0 c s) (j + 1) f := by
 obtain ⟨_, _, l3, _⟩ := last_is w 0 c s h1 h2
 refine ⟨h.1, fun h' => ?_⟩
 rcases Int.lt_or_le (pickR 2 w 0 c s) j with h'' | h''
 ·exact h.2 h''
 ·have e : pickR 2 w 0 c s = j := by omega
  rw [e] at l3
  exact absurd l3 hm
theorem acc3_set {w d c s j f : Int} (h1 : 0 ≤ w) (h2 : w ≤ 6) (hd : 1 ≤ d) (h : acc3 (pickR 3 w d c s) j f) (hm : (c + j) % 7 = w) (hj : d ≤ j) (hf : f = 0) : acc3 (pickR 3 w d c s) (j + 1) j := by
 obtain ⟨l1, _, _, l4⟩ := after_is w d c s h1 h2
 unfold acc3 at h ⊢
 by_cases h3 : pickR 3 w d c s < j
 ·rw [if_pos h3] at h
  omega
 ·by_cases h4 : j < pickR 3 w d c s
  ·exact absurd hm (l4 j hj h4)
  ·rw [if_pos (by omega)]
   omega
theorem acc3_keep {w d c s j f : Int} (h1 : 0 ≤ w) (h2 : w ≤ 6) (h : acc3 (pickR 3 w d c s) j f) (hk : ¬ ((c + j) % 7 = w ∧ d ≤ j ∧ f = 0)) : acc3 (pickR 3 w d c s) (j + 1) f := by
 obtain ⟨l1, _, l3, _⟩ := after_is w d c s h1 h2
 unfold acc3 at h ⊢
 by_cases h3 : pickR 3 w d c s < j
 ·rw [if_pos h3] at h
  rw [if_pos (by omega), h]
 ·rw [if_neg h3] at h
  by_cases h4 : pickR 3 w d c s = j
  ·rw [h4] at l3 l1
   exact absurd ⟨l3, l1, h⟩ hk
  ·rw [if_neg (by omega), h]
end Gno
end
section
namespace Gno
def ruleBasic (fy ty mo a sv : Int) : Bool := decide (1970 ≤ fy ∧ fy ≤ ty ∧ ty ≤ 2029 ∧ (1 ≤ mo ∧ mo ≤ 12) ∧ (0 ≤ a ∧ a ≤ 86400) ∧ (0 ≤ sv ∧ sv ≤ 7200))
theorem ruleBasic_iff (fy ty mo a sv : Int) : ruleBasic fy ty mo a sv = true ↔ 1970 ≤ fy ∧ fy ≤ ty ∧ ty ≤ 2029 ∧ (1 ≤ mo ∧ mo ≤ 12) ∧ (0 ≤ a ∧ a ≤ 86400) ∧ (0 ≤ sv ∧ sv ≤ 7200) := by unfold ruleBasic; rw [decide_eq_true_iff]
def letOk (le : ByteArray) : Bool := decide (le.size ≤ 12) && allLet le
def yearsOk (fy ty mo k wk d : Int) : Prop := ∀ z, fy ≤ z → z ≤ ty → findE z mo k wk d = 0
open Classical in
noncomputable def ruleE (fy ty mo k wk d a sv : Int) (le : ByteArray) : Int :=
 if ruleBasic fy ty mo a sv = false then 3 else if onE k wk d ≠ 0 then onE k wk d else if letOk le = false then 5 else if yearsOk fy ty mo k wk d then 0 else 4
section
variable {fy ty mo k wk d a sv : Int} {le : ByteArray}
theorem ruleE_basic (h : ruleBasic fy ty mo a sv = false) : ruleE fy ty mo k wk d a sv le = 3 := by unfold ruleE; rw [if_pos h]
theorem ruleE_on (h : ruleBasic fy ty mo a sv = true) (ho : onE k wk d ≠ 0) : ruleE fy ty mo k wk d a sv le = onE k wk d := by
 unfold ruleE; rw [if_neg (by simp [h]), if_pos ho]
theorem ruleE_let (h : ruleBasic fy ty mo a sv = true) (ho : onE k wk d = 0) (hl : letOk le = false) : ruleE fy ty mo k wk d a sv le = 5 := by
 unfold ruleE; rw [if_neg (by simp [h]), if_neg (by omega), if_pos hl]
theorem ruleE_year (h : ruleBasic fy ty mo a sv = true) (ho : onE k wk d = 0) (hl : letOk le = true) {y : Int} (h1 : fy ≤ y) (h2 : y ≤ ty) (h3 : ¬ findE y mo k wk d = 0) : ruleE fy ty mo k wk d a sv le = 4 := by
 unfold ruleE; rw [if_neg (by simp [h]), if_neg (by omega), if_neg (by simp [hl]), if_neg (fun hh => h3 (hh y h1 h2))]
theorem ruleE_ok (h : ruleBasic fy ty mo a sv = true) (ho : onE k wk d = 0) (hl : letOk le = true) (hy : yearsOk fy ty mo k wk d) : ruleE fy ty mo k wk d a sv le = 0 := by
 unfold ruleE; rw [if_neg (by simp [h]), if_neg (by omega), if_neg (by simp [hl]), if_pos hy]
theorem ruleE_zero (h : ruleE fy ty mo k wk d a sv le = 0) : ruleBasic fy ty mo a sv = true ∧ onE k wk d = 0 ∧ letOk le = true ∧ yearsOk fy ty mo k wk d := by
 unfold ruleE at h
 cases h1 : ruleBasic fy ty mo a sv
 ·rw [if_pos h1] at h; omega
 ·rw [if_neg (by simp [h1])] at h
  by_cases h2 : onE k wk d ≠ 0
  ·rw [if_pos h2] at h; exact absurd h h2
  ·rw [if_neg h2] at h
   cases h3 : letOk le
   ·rw [if_pos h3] at h; omega
   ·rw [if_neg (by simp [h3])] at h
    by_cases h4 : yearsOk fy ty mo k wk d
    ·exact ⟨rfl, by omega, rfl, h4⟩
    ·rw [if_neg h4] at h; omega
def yearsTo (fy y mo k wk d : Int) : Prop := ∀ z, fy ≤ z → z < y → findE z mo k wk d = 0
theorem yearsTo_start : yearsTo fy fy mo k wk d := fun z h1 h2 => by omega
theorem yearsTo_step {y : Int} (h : yearsTo fy y mo k wk d) (hy : findE y mo k wk d = 0) : yearsTo fy (y + 1) mo k wk d := fun z h1 h2 => by
 rcases Int.lt_or_le z y with h3 | h3
 ·exact h z h1 h3
 ·obtain rfl : z = y := by omega
  exact hy
theorem yearsTo_end {y : Int} (h : yearsTo fy y mo k wk d) (hy : ty < y) : yearsOk fy ty mo k wk d := fun z h1 h2 => h z h1 (by omega)
end
end Gno
end
section
namespace Gno
open Go
def twL (n : Nat) : List UInt8 := [UInt8.ofNat (48 + n / 10), UInt8.ofNat (48 + n % 10)]
def nuL (n : Nat) : List UInt8 := if n < 10 then [UInt8.ofNat (48 + n)] else twL n
def sgL (n : Int) : List UInt8 := if n < 0 then [45] else [43]
def aheadL (k : Int) : List UInt8 := if k < 3 then [] else [71, 77, 84]
def zeroL (k : Int) : List UInt8 := if k = 1 then [] else if k = 2 then [90] else [71, 77, 84]
def layL (k : Int) (h m : Nat) : List UInt8 := if k = 1 then twL h ++ twL m else if k = 3 then (if m = 0 then nuL h else nuL h ++ (58 :: twL m)) else twL h ++ (58 :: twL m)
def showL (k n : Int) : List UInt8 := if n = 0 ∧ k ≠ 1 then zeroL k else aheadL k ++ (sgL n ++ layL k (n.natAbs / 60 / 60) (n.natAbs / 60 % 60))
def halves (k : Int) (c : List UInt8 × List UInt8 × Bool) : List UInt8 × List UInt8 := if c.2.2 = false ∧ k = 1 ∧ c.1.length = 4 then (c.1.take 2, c.1.drop 2) else (c.1, c.2.1)
def atoi0 (l : List UInt8) : Int := (Lib.atoi l).getD 0
def secs (k : Int) (r : List UInt8) : Int := (atoi0 (halves k (Lib.cut r.tail [58])).1 * 60 + atoi0 (halves k (Lib.cut r.tail [58])).2) * 60
def parseR (k : Int) (r : List UInt8) : Int := if r.head? = some 45 then - secs k r else secs k r
def parseL (k : Int) (l : List UInt8) : Option Int :=
 if zeroL k ≠ [] ∧ l = zeroL k then some 0
 else if Lib.hasPrefix l (aheadL k) = false then none
 else if (Lib.trimPrefix l (aheadL k)).length < 2 ∨ 6 < (Lib.trimPrefix l (aheadL k)).length then none
 else some (parseR k (Lib.trimPrefix l (aheadL k)))
def kindB (k : Int) : Bool := decide (1 ≤ k ∧ k ≤ 4)
def offOk (n : Int) : Bool := decide (-57600 ≤ n ∧ n ≤ 57600 ∧ n % 60 = 0)
def oneOk (k : Int) (i : Nat) : Bool := parseL k (showL k (60 * (i : Int) - 57600)) == some (60 * (i : Int) - 57600) && decide ((showL k (60 * (i : Int) - 57600)).length ≤ 9)
def allOk (k : Int) : Nat → Bool
 | 0 => true
 | i + 1 => oneOk k i && allOk k i
theorem allOk_at {k : Int} : ∀ {n i : Nat}, allOk k n = true → i < n → oneOk k i = true
 | 0, i, _, h => by omega
 | n + 1, i, ha, h => by
   rw [allOk, Bool.and_eq_true] at ha
   by_cases e : i = n
   ·rw [e]; exact ha.1
   ·exact allOk_at ha.2 (by omega)
set_option maxRecDepth 1000000 in
theorem allOk_1 : allOk 1 1921 = true := by kernel_rfl
set_option maxRecDepth 1000000 in
theorem allOk_2 : allOk 2 1921 = true := by kernel_rfl
set_option maxRecDepth 1000000 in
theorem allOk_3 : allOk 3 1921 = true := by kernel_rfl
set_option maxRecDepth 1000000 in
theorem allOk_4 : allOk 4 1921 = true := by kernel_rfl
def B (l : List UInt8) : ByteArray := ⟨l.toArray⟩
theorem B_app (a b : List UInt8) : B a ++ B b = B (a ++ b) := ByteArray.ext (by simp [B])
theorem B_size (l : List UInt8) : (B l).size = l.length := by simp [B, ByteArray.size]
theorem B_toList (l : List UInt8) : (B l).data.toList = l := by simp [B]
theorem oneOk_at {k n : Int} (hk : kindB k = true) (hn : offOk n = true) : parseL k (showL k n) = some n ∧ (showL k n).length ≤ 9 := by
 simp only [kindB, offOk, decide_eq_true_eq] at hk hn
 have e : n = 60 * (((n + 57600) / 60).toNat : Int) - 57600 := by omega
 have hi : ((n + 57600) / 60).toNat < 1921 := by omega
 have h : oneOk k ((n + 57600) / 60).toNat = true := by
  have : k = 1 ∨ k = 2 ∨ k = 3 ∨ k = 4 := by omega
  rcases this with rfl | rfl | rfl | rfl
  ·exact allOk_at allOk_1 hi
  ·exact allOk_at allOk_2 hi
  ·exact allOk_at allOk_3 hi
  ·exact allOk_at allOk_4 hi
 unfold oneOk at h
 rw [Bool.and_eq_true, beq_iff_eq, decide_eq_true_eq, ← e] at h
 exact h
def showE (k n : Int) : Int := if kindB k = false then 8 else if offOk n = false then 3 else 0
def showT (k n : Int) : ByteArray := if showE k n = 0 then B (showL k n) else ⟨#[]⟩
def Tells (k : Int) (s : ByteArray) (n : Int) : Prop := showE k n = 0 ∧ showT k n = s
theorem showE_kind {k n : Int} (h : kindB k = false) : showE k n = 8 ∧ showT k n = ⟨#[]⟩ := by
 have e : showE k n = 8 := by unfold showE; rw [if_pos h]
 exact ⟨e, by unfold showT; rw [e]; rfl⟩
theorem showE_range {k n : Int} (h : kindB k = true) (hn : offOk n = false) : showE k n = 3 ∧ showT k n = ⟨#[]⟩ := by
 have e : showE k n = 3 := by unfold showE; rw [if_neg (by simp [h]), if_pos hn]
 exact ⟨e, by unfold showT; rw [e]; rfl⟩
theorem showE_ok {k n : Int} (h : kindB k = true) (hn : offOk n = true) : showE k n = 0 ∧ showT k n = B (showL k n) := by
 have e : showE k n = 0 := by unfold showE; rw [if_neg (by simp [h]), if_neg (by simp [hn])]
 exact ⟨e, by unfold showT; rw [if_pos e]⟩
theorem showE_zero {k n : Int} (h : showE k n = 0) : kindB k = true ∧ offOk n = true := by
 unfold showE at h
 cases h1 : kindB k
 ·rw [h1, if_pos rfl] at h; cases h
 ·rw [h1, if_neg (by simp)] at h
  cases h2 : offOk n
  ·rw [h2, if_pos rfl] at h; cases h
  ·exact ⟨rfl, rfl⟩
theorem showT_size (k n : Int) : (showT k n).size ≤ 9 := by
 cases h1 : kindB k
 ·rw [(showE_kind h1).2]; simp [ByteArray.size]
 ·cases h2 : offOk n
  ·rw [(showE_range h1 h2).2]; simp [ByteArray.size]
  ·rw [(showE_ok h1 h2).2, B_size]; exact (oneOk_at h1 h2).2
theorem tells_parse {k : Int} {s : ByteArray} {n : Int} (h : Tells k s n) : parseL k s.data.toList = some n := by
 obtain ⟨h1, h2⟩ := showE_zero h.1
 rw [← h.2, (showE_ok h1 h2).2, B_toList]
 exact (oneOk_at h1 h2).1
theorem tells_uniq {k : Int} {s : ByteArray} {n m : Int} (h : Tells k s n) (h2 : Tells k s m) : n = m := by
 have := (tells_parse h).symm.trans (tells_parse h2)
 injection this
open Classical in
noncomputable def readN (k : Int) (s : ByteArray) : Int := if h : ∃ n, Tells k s n then choose h else 0
open Classical in
noncomputable def readE (k : Int) (s : ByteArray) : Int := if kindB k = false then 8 else if ∃ n, Tells k s n then 0 else 1
theorem read_yes {k : Int} {s : ByteArray} {n : Int} (h : Tells k s n) : readN k s = n ∧ readE k s = 0 := by
 have hx : ∃ n, Tells k s n := ⟨n, h⟩
 constructor
 ·unfold readN; rw [dif_pos hx]; exact tells_uniq (Classical.choose_spec hx) h
 ·unfold readE; rw [if_neg (by simp [(showE_zero h.1).1]), if_pos hx]
end Gno
end
