/- Plain: what a trie that was built holds. -/
import Derived.Test.YtggepbkhhnhnkaaTrP
set_option linter.unusedVariables false
set_option linter.unusedSimpArgs false
namespace Gno
theorem ndAt_of {t : List Nd} {i : Nat} {n : Nd} (h : t[i]? = some n) : ndAt t i = n := by
  unfold ndAt
  rw [show ((i : Int)).toNat = i by omega, h]; rfl
/-- a trie, its nodes' paths, and what a path's Word is. -/
structure TrInv (t : List Nd) (P : List (List Nat)) (fw : List Nat → Int) : Prop where
  len : P.length = t.length
  zero : P[0]? = some []
  nodup : ∀ (i j : Nat) s, P[i]? = some s → P[j]? = some s → i = j
  rise : ∀ (i : Nat) n, t[i]? = some n → Rise n.es
  edge : ∀ (i : Nat) n s, t[i]? = some n → P[i]? = some s → ∀ e ∈ n.es, ∃ j : Nat, e.to = (j : Int) ∧ i < j ∧ P[j]? = some (s ++ [e.c])
  back : ∀ (j : Nat) s c, P[j]? = some (s ++ [c]) → ∃ (i : Nat) (n : Nd) (e : Eg), P[i]? = some s ∧ t[i]? = some n ∧ e ∈ n.es ∧ e.c = c ∧ e.to = (j : Int)
  word : ∀ (i : Nat) n s, t[i]? = some n → P[i]? = some s → n.word = fw s
theorem TrInv.node {t P fw} (h : TrInv t P fw) {i : Nat} {s : List Nat} (hi : P[i]? = some s) : ∃ n, t[i]? = some n := by
  have := (List.getElem?_eq_some_iff.1 hi).1
  exact ⟨t[i]'(by have := h.len; omega), List.getElem?_eq_getElem _⟩
/-- a node's edge by a byte leads to the longer path's node, and there is none if there is no such path. -/
theorem TrInv.to {t P fw} (h : TrInv t P fw) {i : Nat} {s : List Nat} (hi : P[i]? = some s) (c : Nat) :
    (∃ j : Nat, P[j]? = some (s ++ [c]) ∧ edTo (ndAt t i).es c = (j : Int) ∧ i < j) ∨ ((∀ j : Nat, P[j]? ≠ some (s ++ [c])) ∧ edTo (ndAt t i).es c = -1 ∧ ∀ e ∈ (ndAt t i).es, e.c ≠ c) := by
  obtain ⟨n, hn⟩ := h.node hi
  rw [ndAt_of hn]
  rcases edTo_some (l := n.es) (c := c) with ⟨e, h1, h2, h3⟩ | ⟨h1, h2⟩
  · obtain ⟨j, hj, hlt, hp⟩ := h.edge i n s hn hi e h1
    rw [h2] at hp
    exact .inl ⟨j, hp, h3.trans hj, hlt⟩
  · refine .inr ⟨fun j hj => ?_, h2, h1⟩
    obtain ⟨i', n', e, hi', hn', he, hc, _⟩ := h.back j s c hj
    obtain rfl := h.nodup _ _ _ hi hi'
    rw [hn] at hn'
    injection hn' with hn'
    subst hn'
    exact h1 e he hc
theorem snoc_ind {Q : List Nat → Prop} (h0 : Q []) (hs : ∀ s c, Q s → Q (s ++ [c])) (s : List Nat) : Q s := by
  have : ∀ r : List Nat, Q r.reverse := fun r => by
    induction r with
    | nil => exact h0
    | cons a r ih => rw [List.reverse_cons]; exact hs _ _ ih
  have := this s.reverse
  rwa [List.reverse_reverse] at this
/-- beginnings of a path are paths. -/
theorem TrInv.pre {t P fw} (h : TrInv t P fw) (s r : List Nat) (hj : s ++ r ∈ P) : s ∈ P := by
  revert hj
  refine snoc_ind (Q := fun r => s ++ r ∈ P → s ∈ P) (by simp) ?_ r
  intro r c ih hj
  obtain ⟨j, hj⟩ := List.getElem?_of_mem hj
  rw [← List.append_assoc] at hj
  obtain ⟨i, _, _, hi, _⟩ := h.back j _ c hj
  exact ih (List.mem_of_getElem? hi)
theorem goT_neg (t : List Nd) {a : Int} (h : a < 0) (s : List Nat) : goT t a s = a := by
  cases s with
  | nil => rfl
  | cons c r => unfold goT; rw [if_pos h]
/-- along a text: to the node of that path, if there is one. -/
theorem TrInv.go {t P fw} (h : TrInv t P fw) : ∀ (r : List Nat) {i : Nat} {s : List Nat}, P[i]? = some s → (∃ j : Nat, P[j]? = some (s ++ r) ∧ goT t i r = (j : Int)) ∨ (s ++ r ∉ P ∧ goT t i r = -1)
  | [], i, s, hi => .inl ⟨i, by simpa using hi, rfl⟩
  | c :: r, i, s, hi => by
    have e : goT t i (c :: r) = goT t (edTo (ndAt t i).es c) r := by
      show (if (i : Int) < 0 then (i : Int) else goT t (edTo (ndAt t i).es c) r) = _
      rw [if_neg (by omega)]
    rw [e]
    rcases h.to hi c with ⟨j, hj, he, _⟩ | ⟨hno, he, _⟩
    · rw [he]
      have := h.go r hj
      rwa [List.append_assoc, List.singleton_append] at this
    · rw [he, goT_neg t (by omega)]
      refine .inr ⟨fun hm => ?_, rfl⟩
      have : (s ++ [c]) ++ r ∈ P := by rwa [List.append_assoc, List.singleton_append]
      obtain ⟨j, hj⟩ := List.getElem?_of_mem (h.pre _ _ this)
      exact hno j hj
theorem TrInv.find {t P fw} (h : TrInv t P fw) (hf : ∀ s, s ∉ P → fw s = -1) (s : List Nat) : findK t s = fw s := by
  unfold findK
  rcases h.go s h.zero with ⟨j, hj, he⟩ | ⟨hno, he⟩
  · rw [List.nil_append] at hj
    rw [show goT t 0 s = (j : Int) from he, if_neg (by omega)]
    obtain ⟨n, hn⟩ := h.node hj
    rw [ndAt_of hn]
    exact h.word _ _ _ hn hj
  · rw [List.nil_append] at hno
    rw [show goT t 0 s = -1 from he, if_pos (by omega), hf s hno]
/-! Check says yes -/
theorem edOk_of {k len : Int} : ∀ {l : List Eg} {last : Int}, Rise l → (∀ e ∈ l, k < e.to ∧ e.to < len) → (∀ e ∈ l, last < (e.c : Int)) → edOk k len last l = true
  | [], _, _, _, _ => rfl
  | x :: r, last, hr, h1, h2 => by
    obtain ⟨ha, hb⟩ := List.pairwise_cons.1 hr
    have hx := h1 x List.mem_cons_self
    have hl := h2 x List.mem_cons_self
    unfold edOk
    rw [edOk_of hb (fun e he => h1 e (List.mem_cons_of_mem _ he)) fun e he => by have := ha e he; omega]
    simp [hx, hl]
theorem ndsOk_of {len : Int} : ∀ {t : List Nd} {k : Nat}, (∀ (i : Nat) n, t[i]? = some n → ndOk ((k + i : Nat) : Int) len n = true) → ndsOk len k t = true
  | [], _, _ => rfl
  | n :: r, k, h => by
    unfold ndsOk
    rw [show ndOk (k : Int) len n = true from h 0 n rfl, ndsOk_of (k := k + 1) fun i m hi => by rw [show k + 1 + i = k + (i + 1) by omega]; exact h (i + 1) m (by simpa using hi)]
    rfl
theorem TrInv.ok {t P fw} (h : TrInv t P fw) (hf : ∀ s, -1 ≤ fw s) : trieOk t = true := by
  unfold trieOk
  have hne : t ≠ [] := fun e => by
    have := (List.getElem?_eq_some_iff.1 h.zero).1
    rw [h.len, e] at this
    simp at this
  have h1 : t.isEmpty = false := by cases t with
    | nil => exact absurd rfl hne
    | cons _ _ => rfl
  rw [h1, ndsOk_of]
  · rfl
  · intro i n hi
    have hlt := (List.getElem?_eq_some_iff.1 hi).1
    have hP := List.getElem?_eq_getElem (l := P) (i := i) (by rw [h.len]; exact hlt)
    unfold ndOk
    rw [Nat.zero_add, edOk_of (h.rise i n hi)]
    · rw [h.word i n _ hi hP]; simp [hf]
    · intro e he
      obtain ⟨j, h1, h2, h3⟩ := h.edge i n _ hi hP e he
      have := (List.getElem?_eq_some_iff.1 h3).1
      have := h.len
      omega
    · intro e he; omega
/-! a step -/
theorem get_snoc {α : Type} {l : List α} {x y : α} {i : Nat} (h : (l ++ [x])[i]? = some y) : l[i]? = some y ∨ (i = l.length ∧ x = y) := by
  by_cases hi : i < l.length
  · rw [List.getElem?_append_left hi] at h; exact .inl h
  · rw [List.getElem?_append_right (by omega)] at h
    by_cases he : i = l.length
    · rw [he, Nat.sub_self] at h
      exact .inr ⟨he, by simpa using h⟩
    · rw [List.getElem?_eq_none (by simp; omega)] at h; cases h
theorem set_get {α : Type} {l : List α} {a i : Nat} {x y : α} (h : (l.set a x)[i]? = some y) : (i = a ∧ x = y) ∨ (i ≠ a ∧ l[i]? = some y) := by
  rw [List.getElem?_set] at h
  split at h
  · rename_i e
    split at h
    · exact .inl ⟨e.symm, by simpa using h⟩
    · cases h
  · rename_i e; exact .inr ⟨fun q => e q.symm, h⟩
theorem TrInv.grow {t P fw} (h : TrInv t P fw) {a : Nat} {p : List Nat} (ha : P[a]? = some p) (c : Nat) (hno : ∀ j : Nat, P[j]? ≠ some (p ++ [c])) (hes : ∀ e ∈ (ndAt t a).es, e.c ≠ c) (hw : fw (p ++ [c]) = -1) :
    TrInv (t.set a ⟨insE (ndAt t a).es ⟨c, t.length⟩, (ndAt t a).word⟩ ++ [⟨[], -1⟩]) (P ++ [p ++ [c]]) fw := by
  obtain ⟨n0, hn0⟩ := h.node ha
  have halt := (List.getElem?_eq_some_iff.1 hn0).1
  rw [ndAt_of hn0] at hes ⊢
  have old : ∀ {i s}, P[i]? = some s → (P ++ [p ++ [c]])[i]? = some s := fun {i s} hi => by
    rw [List.getElem?_append_left (List.getElem?_eq_some_iff.1 hi).1]; exact hi
  refine ⟨by simp [h.len], old h.zero, ?_, ?_, ?_, ?_, ?_⟩
  · intro i j s hi hj
    rcases get_snoc hi with hi | ⟨hi2, rfl⟩ <;> rcases get_snoc hj with hj | ⟨hj2, hs⟩
    · exact h.nodup _ _ _ hi hj
    · rw [← hs] at hi; exact absurd hi (hno i)
    · exact absurd hj (hno j)
    · omega
  · intro i n hi
    rcases get_snoc hi with hi | ⟨_, rfl⟩
    · rcases set_get hi with ⟨rfl, rfl⟩ | ⟨_, hi⟩
      · exact insE_rise (h.rise _ _ hn0) hes
      · exact h.rise _ _ hi
    · exact List.Pairwise.nil
  · intro i n s hi hP e he
    rcases get_snoc hi with hi | ⟨_, rfl⟩
    · have hilt : i < t.length := by have := (List.getElem?_eq_some_iff.1 hi).1; simpa using this
      have hP' : P[i]? = some s := by
        rw [List.getElem?_append_left (by rw [h.len]; exact hilt)] at hP; exact hP
      rcases set_get hi with ⟨rfl, rfl⟩ | ⟨_, hi⟩
      · rcases insE_mem.1 he with rfl | he
        · rw [ha] at hP'
          injection hP' with hP'
          subst hP'
          exact ⟨t.length, rfl, hilt, by rw [List.getElem?_append_right (by rw [h.len]; omega), h.len, Nat.sub_self]; rfl⟩
        · obtain ⟨j, h1, h2, h3⟩ := h.edge _ _ _ hn0 hP' e he
          exact ⟨j, h1, h2, old h3⟩
      · obtain ⟨j, h1, h2, h3⟩ := h.edge _ _ _ hi hP' e he
        exact ⟨j, h1, h2, old h3⟩
    · cases he
  · intro j s c' hj
    rcases get_snoc hj with hj | ⟨hj2, hs⟩
    · obtain ⟨i, n, e, h1, h2, h3, h4, h5⟩ := h.back j s c' hj
      by_cases hia : i = a
      · subst hia
        rw [hn0] at h2
        injection h2 with h2
        subst h2
        exact ⟨i, _, e, old h1, by rw [List.getElem?_append_left (by simpa using halt), List.getElem?_set_self halt], insE_mem.2 (.inr h3), h4, h5⟩
      · have := (List.getElem?_eq_some_iff.1 h2).1
        exact ⟨i, n, e, old h1, by rw [List.getElem?_append_left (by simpa using this), List.getElem?_set_ne (fun q => hia q.symm)]; exact h2, h3, h4, h5⟩
    · obtain ⟨rfl, rfl⟩ := List.append_inj' hs rfl |>.imp id (fun q => by simpa using q)
      exact ⟨a, _, ⟨c, t.length⟩, old ha, by rw [List.getElem?_append_left (by simpa using halt), List.getElem?_set_self halt], insE_mem.2 (.inl rfl), rfl, by rw [hj2, h.len]⟩
  · intro i n s hi hP
    rcases get_snoc hi with hi | ⟨hi2, rfl⟩
    · have hilt : i < t.length := by have := (List.getElem?_eq_some_iff.1 hi).1; simpa using this
      have hP' : P[i]? = some s := by
        rw [List.getElem?_append_left (by rw [h.len]; exact hilt)] at hP; exact hP
      rcases set_get hi with ⟨rfl, rfl⟩ | ⟨_, hi⟩
      · show n0.word = _
        exact h.word _ _ _ hn0 hP'
      · exact h.word _ _ _ hi hP'
    · rw [List.length_set] at hi2
      rw [List.getElem?_append_right (by rw [h.len, hi2]; exact Nat.le_refl _), hi2, h.len, Nat.sub_self] at hP
      have hq : p ++ [c] = s := by simpa using hP
      rw [← hq, hw]
/-! a word's nodes -/
theorem TrInv.walk {fw} : ∀ (r : List Nat) {t P} (h : TrInv t P fw) {a : Nat} {p : List Nat}, P[a]? = some p → (∀ q, q ∉ P → fw q = -1) →
    ∃ P', TrInv (goBT t a r) P' fw ∧ P'[goBA t a r]? = some (p ++ r) ∧ (∀ q, q ∈ P' ↔ q ∈ P ∨ ∃ x, x <+: r ∧ q = p ++ x) ∧ (goBT t a r).length ≤ t.length + r.length
  | [], t, P, h, a, p, ha, hf => ⟨P, h, by simpa [goBA] using ha, fun q => ⟨.inl, fun hq => by
      rcases hq with hq | ⟨x, hx, rfl⟩
      · exact hq
      · rw [List.prefix_nil] at hx
        subst hx
        rw [List.append_nil]; exact List.mem_of_getElem? ha⟩, by simp [goBT]⟩
  | c :: r, t, P, h, a, p, ha, hf => by
    unfold goBT goBA
    rcases h.to ha c with ⟨j, hj, he, _⟩ | ⟨hno, he, hes⟩
    · have hT : stepT t a c = t := by unfold stepT; rw [if_neg (by omega)]
      have hA : stepA t a c = j := by unfold stepA; rw [if_neg (by omega), he]; omega
      rw [hT, hA]
      obtain ⟨P', h1, h2, h3, h4⟩ := TrInv.walk r h hj hf
      refine ⟨P', h1, by rwa [List.append_assoc, List.singleton_append] at h2, fun q => ?_, by simp; omega⟩
      rw [h3]
      constructor
      · rintro (hq | ⟨x, hx, rfl⟩)
        · exact .inl hq
        · exact .inr ⟨c :: x, List.cons_prefix_cons.2 ⟨rfl, hx⟩, by simp⟩
      · rintro (hq | ⟨x, hx, rfl⟩)
        · exact .inl hq
        · cases x with
          | nil => rw [List.append_nil]; exact .inl (List.mem_of_getElem? ha)
          | cons d x =>
            obtain ⟨rfl, hx2⟩ := List.cons_prefix_cons.1 hx
            exact .inr ⟨x, hx2, by simp⟩
    · have hT : stepT t a c = t.set a ⟨insE (ndAt t a).es ⟨c, t.length⟩, (ndAt t a).word⟩ ++ [⟨[], -1⟩] := by unfold stepT; rw [if_pos (by omega)]
      have hA : stepA t a c = t.length := by unfold stepA; rw [if_pos (by omega)]
      rw [hT, hA]
      have hpc : p ++ [c] ∉ P := fun hm => by obtain ⟨j, hj⟩ := List.getElem?_of_mem hm; exact hno j hj
      have hg := h.grow ha c hno hes (hf _ hpc)
      obtain ⟨P', h1, h2, h3, h4⟩ := TrInv.walk r hg (a := t.length) (p := p ++ [c]) (by rw [List.getElem?_append_right (by rw [h.len]; omega), h.len, Nat.sub_self]; rfl) (fun q hq => hf q fun hm => hq (List.mem_append_left _ hm))
      refine ⟨P', h1, by rwa [List.append_assoc, List.singleton_append] at h2, fun q => ?_, by simp at h4 ⊢; omega⟩
      rw [h3, List.mem_append]
      constructor
      · rintro ((hq | hq) | ⟨x, hx, rfl⟩)
        · exact .inl hq
        · exact .inr ⟨[c], List.cons_prefix_cons.2 ⟨rfl, List.nil_prefix⟩, by simpa using hq⟩
        · exact .inr ⟨c :: x, List.cons_prefix_cons.2 ⟨rfl, hx⟩, by simp⟩
      · rintro (hq | ⟨x, hx, rfl⟩)
        · exact .inl (.inl hq)
        · cases x with
          | nil => rw [List.append_nil]; exact .inl (.inl (List.mem_of_getElem? ha))
          | cons d x =>
            obtain ⟨rfl, hx2⟩ := List.cons_prefix_cons.1 hx
            exact .inr ⟨x, hx2, by simp⟩
/-- a Word set. -/
theorem TrInv.mark {t P fw} (h : TrInv t P fw) {a : Nat} {p : List Nat} (ha : P[a]? = some p) (k : Nat) :
    TrInv (markT t a k) P (fun s => if 0 ≤ fw s then fw s else if p = s then (k : Int) else fw s) := by
  obtain ⟨n0, hn0⟩ := h.node ha
  have hw0 := h.word _ _ _ hn0 ha
  unfold markT
  rw [ndAt_of hn0]
  by_cases hneg : n0.word < 0
  · rw [if_pos hneg]
    refine ⟨by simp [h.len], h.zero, h.nodup, ?_, ?_, ?_, ?_⟩
    · intro i n hi
      rcases set_get hi with ⟨rfl, rfl⟩ | ⟨_, hi⟩
      · show Rise n0.es
        exact h.rise _ _ hn0
      · exact h.rise _ _ hi
    · intro i n s hi hP e he
      rcases set_get hi with ⟨rfl, rfl⟩ | ⟨_, hi⟩
      · exact h.edge _ n0 _ hn0 hP e he
      · exact h.edge _ _ _ hi hP e he
    · intro j s c hj
      obtain ⟨i, n, e, h1, h2, h3, h4, h5⟩ := h.back j s c hj
      by_cases hia : i = a
      · subst hia
        rw [hn0] at h2
        injection h2 with h2
        subst h2
        exact ⟨i, _, e, h1, List.getElem?_set_self (List.getElem?_eq_some_iff.1 hn0).1, h3, h4, h5⟩
      · exact ⟨i, n, e, h1, by rw [List.getElem?_set_ne (fun q => hia q.symm)]; exact h2, h3, h4, h5⟩
    · intro i n s hi hP
      rcases set_get hi with ⟨rfl, rfl⟩ | ⟨hia, hi⟩
      · rw [ha] at hP
        injection hP with hP
        subst hP
        show (k : Int) = if 0 ≤ fw p then fw p else if p = p then (k : Int) else fw p
        rw [if_neg (by omega), if_pos rfl]
      · show n.word = if 0 ≤ fw s then fw s else if p = s then (k : Int) else fw s
        have := h.word _ _ _ hi hP
        by_cases h0 : 0 ≤ fw s
        · rw [if_pos h0]; exact this
        · rw [if_neg h0, if_neg (fun q => hia (h.nodup _ _ _ (by rw [← q] at hP; exact hP) ha))]; exact this
  · rw [if_neg hneg]
    refine ⟨h.len, h.zero, h.nodup, h.rise, h.edge, h.back, fun i n s hi hP => ?_⟩
    show n.word = if 0 ≤ fw s then fw s else if p = s then (k : Int) else fw s
    have := h.word _ _ _ hi hP
    by_cases h0 : 0 ≤ fw s
    · rw [if_pos h0]; exact this
    · rw [if_neg h0]
      by_cases hs : p = s
      · rw [← hs] at h0; omega
      · rw [if_neg hs]; exact this
theorem markT_len (t : List Nd) (a k : Nat) : (markT t a k).length = t.length := by unfold markT; split <;> simp
def bytesN : List (List Nat) → Nat
  | [] => 0
  | s :: r => s.length + bytesN r
/-- all words laid in, one behind the other. -/
theorem buildF_inv : ∀ (l W : List (List Nat)) {t P} (h : TrInv t P (ixF W)) (hm : ∀ q, q ∈ P ↔ q = [] ∨ ∃ w ∈ W, q <+: w),
    ∃ P', TrInv (buildF t W.length l) P' (ixF (W ++ l)) ∧ (∀ q, q ∈ P' ↔ q = [] ∨ ∃ w ∈ W ++ l, q <+: w) ∧ (buildF t W.length l).length ≤ t.length + bytesN l
  | [], W, t, P, h, hm => ⟨P, by rw [List.append_nil]; exact h, by rw [List.append_nil]; exact hm, by simp [buildF, bytesN]⟩
  | s :: r, W, t, P, h, hm => by
    have hf : ∀ q, q ∉ P → ixF W q = -1 := fun q hq => by
      have h1 : ¬ 0 ≤ ixF W q := fun h0 => hq ((hm q).2 (.inr ⟨q, ixF_mem.1 h0, List.prefix_rfl⟩))
      have := (ixF_ge W q).1
      omega
    obtain ⟨P1, h1, h2, h3, h4⟩ := TrInv.walk s h h.zero hf
    rw [List.nil_append] at h2
    have hk := h1.mark h2 W.length
    have hfw : (fun q => if 0 ≤ ixF W q then ixF W q else if s = q then (W.length : Int) else ixF W q) = ixF (W ++ [s]) := by
      funext q
      rw [ixF_snoc]
      have := (ixF_ge W q).1
      by_cases h0 : 0 ≤ ixF W q
      · rw [if_pos h0, if_pos h0]
      · rw [if_neg h0, if_neg h0]
        by_cases hs : s = q
        · rw [if_pos hs, if_pos hs]
        · rw [if_neg hs, if_neg hs]; omega
    rw [hfw] at hk
    obtain ⟨P2, k1, k2, k3⟩ := buildF_inv r (W ++ [s]) (t := addW t W.length s) hk (fun q => by
      rw [h3, hm]
      constructor
      · rintro ((hq | ⟨w, hw, hq⟩) | ⟨x, hx, rfl⟩)
        · exact .inl hq
        · exact .inr ⟨w, List.mem_append_left _ hw, hq⟩
        · exact .inr ⟨s, by simp, by simpa using hx⟩
      · rintro (hq | ⟨w, hw, hq⟩)
        · exact .inl (.inl hq)
        · rcases List.mem_append.1 hw with hw | hw
          · exact .inl (.inr ⟨w, hw, hq⟩)
          · obtain rfl : w = s := by simpa using hw
            exact .inr ⟨q, hq, by simp⟩)
    rw [List.length_append, List.length_singleton] at k1 k3
    rw [List.append_assoc, List.singleton_append] at k1 k2
    refine ⟨P2, k1, k2, ?_⟩
    have : (addW t W.length s).length ≤ t.length + s.length := by unfold addW; rw [markT_len]; exact h4
    show (buildF (addW t W.length s) (W.length + 1) r).length ≤ _
    unfold bytesN
    omega
theorem root_inv : TrInv root [[]] (ixF []) := by
  refine ⟨rfl, rfl, ?_, ?_, ?_, ?_, ?_⟩
  · intro i j s hi hj
    have := (List.getElem?_eq_some_iff.1 hi).1
    have := (List.getElem?_eq_some_iff.1 hj).1
    simp at *
    omega
  · intro i n hi
    have h := (List.getElem?_eq_some_iff.1 hi).1
    obtain rfl : i = 0 := by simp [root] at h; omega
    obtain rfl : (⟨[], -1⟩ : Nd) = n := by simpa [root] using hi
    exact List.Pairwise.nil
  · intro i n s hi hP e he
    have h := (List.getElem?_eq_some_iff.1 hi).1
    obtain rfl : i = 0 := by simp [root] at h; omega
    obtain rfl : (⟨[], -1⟩ : Nd) = n := by simpa [root] using hi
    cases he
  · intro j s c hj
    have h := (List.getElem?_eq_some_iff.1 hj).1
    obtain rfl : j = 0 := by simp at h; omega
    simp at hj
  · intro i n s hi hP
    have h := (List.getElem?_eq_some_iff.1 hi).1
    obtain rfl : i = 0 := by simp [root] at h; omega
    obtain rfl : (⟨[], -1⟩ : Nd) = n := by simpa [root] using hi
    rfl
theorem buildL_inv (l : List (List Nat)) : ∃ P, TrInv (buildL l) P (ixF l) ∧ (∀ q, q ∈ P ↔ q = [] ∨ ∃ w ∈ l, q <+: w) ∧ (buildL l).length ≤ 1 + bytesN l := by
  obtain ⟨P, h1, h2, h3⟩ := buildF_inv l [] (t := root) (P := [[]]) root_inv (by simp)
  exact ⟨P, h1, by simpa using h2, h3⟩
theorem buildL_find (l : List (List Nat)) (s : List Nat) : findK (buildL l) s = ixF l s := by
  obtain ⟨P, h1, h2, _⟩ := buildL_inv l
  refine h1.find (fun q hq => ?_) s
  have h3 : ¬ 0 ≤ ixF l q := fun h0 => hq ((h2 q).2 (.inr ⟨q, ixF_mem.1 h0, List.prefix_rfl⟩))
  have := (ixF_ge l q).1
  omega
theorem buildL_ok (l : List (List Nat)) : trieOk (buildL l) = true := by
  obtain ⟨P, h1, _⟩ := buildL_inv l
  exact h1.ok fun s => (ixF_ge l s).1
end Gno
