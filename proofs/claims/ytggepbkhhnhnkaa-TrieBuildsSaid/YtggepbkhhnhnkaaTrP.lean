/- Plain: tries. -/
import Derived.Lib.Hide
set_option linter.unusedVariables false
set_option linter.unusedSimpArgs false
namespace Gno
structure Eg where
  c : Nat
  to : Int
structure Nd where
  es : List Eg
  word : Int
/-! what Check asks -/
def edOk (k len : Int) : Int → List Eg → Bool
  | _, [] => true
  | last, e :: r => decide (k < e.to) && decide (e.to < len) && decide (last < (e.c : Int)) && edOk k len e.c r
def ndOk (k len : Int) (n : Nd) : Bool := decide (-1 ≤ n.word) && edOk k len (-1) n.es
def ndsOk (len : Int) : Nat → List Nd → Bool
  | _, [] => true
  | k, n :: r => ndOk k len n && ndsOk len (k + 1) r
def trieOk (t : List Nd) : Bool := !t.isEmpty && ndsOk t.length 0 t
def trieE (t : List Nd) : Int := if trieOk t = true then 0 else 1
/-! a node's edge by a byte; along a text -/
def edTo : List Eg → Nat → Int
  | [], _ => -1
  | e :: r, c => if e.c = c then e.to else edTo r c
def ndAt (t : List Nd) (i : Int) : Nd := (t[i.toNat]?).getD ⟨[], -1⟩
def goT (t : List Nd) : Int → List Nat → Int
  | a, [] => a
  | a, c :: r => if a < 0 then a else goT t (edTo (ndAt t a).es c) r
def findK (t : List Nd) (s : List Nat) : Int := if goT t 0 s < 0 then -1 else (ndAt t (goT t 0 s)).word
def lgK (t : List Nd) (s : List Nat) : Nat → Int
  | 0 => if 0 ≤ findK t (s.take 0) then findK t (s.take 0) else -1
  | n + 1 => if 0 ≤ findK t (s.take (n + 1)) then findK t (s.take (n + 1)) else lgK t s n
def lgN (t : List Nd) (s : List Nat) : Nat → Nat
  | 0 => 0
  | n + 1 => if 0 ≤ findK t (s.take (n + 1)) then n + 1 else lgN t s n
/-! building -/
def insE : List Eg → Eg → List Eg
  | [], x => [x]
  | e :: r, x => if x.c < e.c then x :: e :: r else e :: insE r x
def stepT (t : List Nd) (a c : Nat) : List Nd := if edTo (ndAt t a).es c < 0 then t.set a ⟨insE (ndAt t a).es ⟨c, t.length⟩, (ndAt t a).word⟩ ++ [⟨[], -1⟩] else t
def stepA (t : List Nd) (a c : Nat) : Nat := if edTo (ndAt t a).es c < 0 then t.length else (edTo (ndAt t a).es c).toNat
def goBT : List Nd → Nat → List Nat → List Nd
  | t, _, [] => t
  | t, a, c :: r => goBT (stepT t a c) (stepA t a c) r
def goBA : List Nd → Nat → List Nat → Nat
  | _, a, [] => a
  | t, a, c :: r => goBA (stepT t a c) (stepA t a c) r
def markT (t : List Nd) (a k : Nat) : List Nd := if (ndAt t a).word < 0 then t.set a ⟨(ndAt t a).es, k⟩ else t
def addW (t : List Nd) (k : Nat) (s : List Nat) : List Nd := markT (goBT t 0 s) (goBA t 0 s) k
def buildF : List Nd → Nat → List (List Nat) → List Nd
  | t, _, [] => t
  | t, k, s :: r => buildF (addW t k s) (k + 1) r
def root : List Nd := [⟨[], -1⟩]
def buildL (l : List (List Nat)) : List Nd := buildF root 0 l
/-! the first place of a thing in a list -/
def ixF : List (List Nat) → List Nat → Int
  | [], _ => -1
  | x :: r, s => if x = s then 0 else if ixF r s < 0 then -1 else ixF r s + 1
theorem ixF_ge : ∀ (l : List (List Nat)) (s : List Nat), -1 ≤ ixF l s ∧ ixF l s < l.length
  | [], s => by simp [ixF]
  | x :: r, s => by
    have := ixF_ge r s
    unfold ixF
    simp only [List.length_cons]
    split
    · omega
    · split <;> omega
theorem ixF_at : ∀ (l : List (List Nat)) (s : List Nat), 0 ≤ ixF l s → l[(ixF l s).toNat]? = some s
  | [], s, h => by simp [ixF] at h
  | x :: r, s, h => by
    unfold ixF at h ⊢
    split
    · rename_i e; rw [e]; rfl
    · rename_i e
      rw [if_neg e] at h
      split
      · rename_i e2; rw [if_pos e2] at h; omega
      · rename_i e2
        have := ixF_at r s (by omega)
        rw [show (ixF r s + 1).toNat = (ixF r s).toNat + 1 by omega]
        simpa using this
theorem ixF_le : ∀ (l : List (List Nat)) (s : List Nat) (i : Nat), l[i]? = some s → 0 ≤ ixF l s ∧ ixF l s ≤ i
  | [], s, i, h => by simp at h
  | x :: r, s, 0, h => by
    obtain rfl : x = s := by simpa using h
    unfold ixF; simp
  | x :: r, s, i + 1, h => by
    have := ixF_le r s i (by simpa using h)
    unfold ixF
    split
    · omega
    · rw [if_neg (by omega)]; omega
theorem ixF_mem {l : List (List Nat)} {s : List Nat} : 0 ≤ ixF l s ↔ s ∈ l :=
  ⟨fun h => List.mem_of_getElem? (ixF_at l s h), fun h => by
    obtain ⟨i, hi⟩ := List.getElem?_of_mem h
    exact (ixF_le l s i hi).1⟩
theorem ixF_snoc (w s : List Nat) : ∀ l : List (List Nat), ixF (l ++ [w]) s = if 0 ≤ ixF l s then ixF l s else if w = s then l.length else -1
  | [] => by
    show (if w = s then (0 : Int) else if ixF [] s < 0 then -1 else ixF [] s + 1) = _
    simp [ixF]
  | x :: r => by
    have ih := ixF_snoc w s r
    have hg := ixF_ge r s
    have e1 : ∀ l', ixF (x :: l') s = if x = s then 0 else if ixF l' s < 0 then -1 else ixF l' s + 1 := fun _ => rfl
    rw [List.cons_append, e1, e1, ih]
    by_cases e : x = s
    · simp [e]
    · rw [if_neg e, if_neg e]
      by_cases h : 0 ≤ ixF r s
      · rw [if_pos h, if_neg (by omega), if_pos (by omega)]
      · rw [if_neg h, if_pos (c := ixF r s < 0) (by omega)]
        by_cases e2 : w = s
        · rw [if_pos e2, if_pos e2, if_neg (by omega)]; simp
        · rw [if_neg e2, if_neg e2]; simp
/-! edges that rise -/
def Rise (l : List Eg) : Prop := l.Pairwise (fun a b => a.c < b.c)
theorem edTo_mem : ∀ {l : List Eg} {e : Eg}, Rise l → e ∈ l → edTo l e.c = e.to
  | [], e, _, h => by cases h
  | x :: r, e, hr, h => by
    obtain ⟨h1, h2⟩ := List.pairwise_cons.1 hr
    unfold edTo
    rcases List.mem_cons.1 h with rfl | h
    · rw [if_pos rfl]
    · have := h1 e h
      rw [if_neg (by omega)]
      exact edTo_mem h2 h
theorem edTo_none : ∀ {l : List Eg} {c : Nat}, (∀ e ∈ l, e.c ≠ c) → edTo l c = -1
  | [], c, _ => rfl
  | x :: r, c, h => by
    unfold edTo
    rw [if_neg (h x List.mem_cons_self)]
    exact edTo_none fun e he => h e (List.mem_cons_of_mem _ he)
theorem edTo_some : ∀ {l : List Eg} {c : Nat}, (∃ e ∈ l, e.c = c ∧ edTo l c = e.to) ∨ ((∀ e ∈ l, e.c ≠ c) ∧ edTo l c = -1)
  | [], c => .inr ⟨(fun e h => by cases h), rfl⟩
  | x :: r, c => by
    unfold edTo
    by_cases hx : x.c = c
    · rw [if_pos hx]; exact .inl ⟨x, List.mem_cons_self, hx, rfl⟩
    · rw [if_neg hx]
      rcases edTo_some (l := r) (c := c) with ⟨e, h1, h2, h3⟩ | ⟨h1, h2⟩
      · exact .inl ⟨e, List.mem_cons_of_mem _ h1, h2, h3⟩
      · refine .inr ⟨fun e he => ?_, h2⟩
        rcases List.mem_cons.1 he with rfl | he
        · exact hx
        · exact h1 e he
theorem insE_mem {x : Eg} : ∀ {l : List Eg} {e : Eg}, e ∈ insE l x ↔ e = x ∨ e ∈ l
  | [], e => by simp [insE]
  | y :: r, e => by
    unfold insE
    split
    · simp
    · simp only [List.mem_cons, insE_mem (l := r)]
      constructor
      · rintro (h | h | h)
        · exact .inr (.inl h)
        · exact .inl h
        · exact .inr (.inr h)
      · rintro (h | h | h)
        · exact .inr (.inl h)
        · exact .inl h
        · exact .inr (.inr h)
theorem insE_rise {x : Eg} : ∀ {l : List Eg}, Rise l → (∀ e ∈ l, e.c ≠ x.c) → Rise (insE l x)
  | [], _, _ => by simp [insE, Rise]
  | y :: r, hr, hn => by
    obtain ⟨h1, h2⟩ := List.pairwise_cons.1 hr
    unfold insE
    split
    · rename_i hlt
      refine List.pairwise_cons.2 ⟨fun e he => ?_, hr⟩
      rcases List.mem_cons.1 he with rfl | he
      · exact hlt
      · have := h1 e he; omega
    · rename_i hge
      have hne := hn y List.mem_cons_self
      refine List.pairwise_cons.2 ⟨fun e he => ?_, insE_rise h2 fun e he => hn e (List.mem_cons_of_mem _ he)⟩
      rcases insE_mem.1 he with rfl | he
      · omega
      · exact h1 e he
theorem insE_len {x : Eg} : ∀ {l : List Eg}, (insE l x).length = l.length + 1
  | [] => rfl
  | y :: r => by
    unfold insE
    split
    · rfl
    · simp [insE_len (l := r)]
/-- how many lie ahead of a byte. -/
def cntE : List Eg → Nat → Nat
  | [], _ => 0
  | e :: r, c => if e.c < c then cntE r c + 1 else 0
theorem cntE_le : ∀ (l : List Eg) (c : Nat), cntE l c ≤ l.length
  | [], _ => Nat.le_refl _
  | e :: r, c => by
    have := cntE_le r c
    unfold cntE
    split <;> simp <;> omega
theorem cntE_low : ∀ {l : List Eg} {c i : Nat} {e : Eg}, i < cntE l c → l[i]? = some e → e.c < c
  | [], c, i, e, h, _ => by simp [cntE] at h
  | x :: r, c, 0, e, h, he => by
    obtain rfl : x = e := by simpa using he
    unfold cntE at h
    split at h
    · assumption
    · exact absurd h (by omega)
  | x :: r, c, i + 1, e, h, he => by
    unfold cntE at h
    split at h
    · exact cntE_low (Nat.lt_of_succ_lt_succ h) (by simpa using he)
    · exact absurd h (by omega)
theorem cntE_high : ∀ {l : List Eg} {c i : Nat} {e : Eg}, Rise l → cntE l c ≤ i → l[i]? = some e → c ≤ e.c
  | [], c, i, e, _, _, he => by simp at he
  | x :: r, c, i, e, hr, h, he => by
    obtain ⟨h1, h2⟩ := List.pairwise_cons.1 hr
    unfold cntE at h
    split at h
    · cases i with
      | zero => exact absurd h (by omega)
      | succ i => exact cntE_high h2 (Nat.le_of_succ_le_succ h) (by simpa using he)
    · cases i with
      | zero =>
        obtain rfl : x = e := by simpa using he
        omega
      | succ i =>
        have := h1 e (List.mem_of_getElem? (i := i) (by simpa using he))
        omega
theorem insE_cnt {x : Eg} : ∀ {l : List Eg}, Rise l → (∀ e ∈ l, e.c ≠ x.c) → insE l x = l.take (cntE l x.c) ++ x :: l.drop (cntE l x.c)
  | [], _, _ => rfl
  | y :: r, hr, hn => by
    obtain ⟨h1, h2⟩ := List.pairwise_cons.1 hr
    have hne := hn y List.mem_cons_self
    unfold insE cntE
    by_cases h : x.c < y.c
    · rw [if_pos h, if_neg (by omega)]; rfl
    · rw [if_neg h, if_pos (by omega), insE_cnt h2 fun e he => hn e (List.mem_cons_of_mem _ he)]
      simp
/-- the edge that stands where the byte belongs is the byte's, or none is. -/
theorem edTo_cnt {l : List Eg} {c : Nat} (hr : Rise l) : (∃ e, l[cntE l c]? = some e ∧ e.c = c ∧ edTo l c = e.to) ∨ ((∀ e, l[cntE l c]? = some e → e.c ≠ c) ∧ (∀ e ∈ l, e.c ≠ c) ∧ edTo l c = -1) := by
  rcases edTo_some (l := l) (c := c) with ⟨e, h1, h2, h3⟩ | ⟨h1, h2⟩
  · obtain ⟨i, hi⟩ := List.getElem?_of_mem h1
    have hlo : ¬ i < cntE l c := fun h => by have := cntE_low h hi; omega
    have hlt : cntE l c < l.length := by have := (List.getElem?_eq_some_iff.1 hi).1; omega
    have hg := List.getElem?_eq_getElem hlt
    have hh := cntE_high hr (Nat.le_refl _) hg
    by_cases hij : i = cntE l c
    · rw [hij] at hi; exact .inl ⟨e, hi, h2, h3⟩
    · have := List.pairwise_iff_getElem.1 hr (cntE l c) i hlt (List.getElem?_eq_some_iff.1 hi).1 (by omega)
      have he := (List.getElem?_eq_some_iff.1 hi).2
      rw [he] at this
      omega
  · exact .inr ⟨fun e he => h1 e (List.mem_of_getElem? he), h1, h2⟩
end Gno
