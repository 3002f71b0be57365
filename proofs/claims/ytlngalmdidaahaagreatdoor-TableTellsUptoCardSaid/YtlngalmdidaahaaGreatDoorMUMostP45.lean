/- Plain: the reference's times and turns. -/
import Derived.Test.YtlngalmdidaahaaGreatDoorMUMostP43
set_option linter.unusedSimpArgs false
set_option linter.unusedVariables false
/-! Plain: the reference's times and turns. -/
section
set_option linter.unusedVariables false
set_option linter.unusedSimpArgs false
namespace Gno
open Go
/-- a time put among rising ones, once. -/
def insT (t : Int) : List Int → List Int
  | [] => [t]
  | a :: r => if a < t then a :: insT t r else if a = t then a :: r else t :: a :: r
def putT (l : List Int) (t : Int) : List Int := if 0 ≤ t ∧ t < 1893456000 then insT t l else l
def putsY (r : Rl) (std : Int) (l : List Int) : Nat → List Int
  | 0 => l
  | k + 1 => putT (putsY r std l k) (r.g std (r.fy + k))
def putsS (rs : List Rl) (std : Int) (l : List Int) : Nat → List Int
  | 0 => l
  | i + 1 => match rs[i]? with | some r => putsY r std (putsS rs std l i) (yearsN r) | none => putsS rs std l i
def putsX (d : Dt) (x : Er) (l : List Int) : List Int := if x.set < 0 then l else match d.ss[x.set.toNat]? with | some s => putsS s.rs x.std l s.rs.length | none => l
def putsE (d : Dt) (es : List Er) : Nat → List Int
  | 0 => putT [] 0
  | k + 1 => match es[k]? with | some x => putsX d x (putT (putsE d es k) x.til) | none => putsE d es k
theorem insT_mem {t n : Int} : ∀ l : List Int, n ∈ insT t l ↔ n = t ∨ n ∈ l
  | [] => by simp [insT]
  | a :: r => by
    have ih := insT_mem (t := t) (n := n) r
    unfold insT
    split
    · rw [List.mem_cons, ih, List.mem_cons]
      constructor
      · rintro (h | h | h)
        · exact .inr (.inl h)
        · exact .inl h
        · exact .inr (.inr h)
      · rintro (h | h | h)
        · exact .inr (.inl h)
        · exact .inl h
        · exact .inr (.inr h)
    · split
      · rename_i h
        rw [List.mem_cons]
        constructor
        · exact fun q => .inr q
        · rintro (q | q)
          · exact .inl (q.trans h.symm)
          · exact q
      · rw [List.mem_cons]
theorem insT_sorted {t : Int} : ∀ l : List Int, l.Pairwise (· < ·) → (insT t l).Pairwise (· < ·)
  | [], _ => by simp [insT]
  | a :: r, h => by
    obtain ⟨h1, h2⟩ := List.pairwise_cons.1 h
    unfold insT
    split
    · rename_i hat
      rw [List.pairwise_cons]
      refine ⟨fun n hn => ?_, insT_sorted r h2⟩
      rcases (insT_mem r).1 hn with q | q
      · omega
      · exact h1 n q
    · split
      · exact h
      · rw [List.pairwise_cons]
        refine ⟨fun n hn => ?_, h⟩
        rcases List.mem_cons.1 hn with q | q
        · omega
        · have := h1 n q; omega
/-- rising times that there are, zero among them. -/
structure TimesOk (l : List Int) : Prop where
  rise : l.Pairwise (· < ·)
  bd : ∀ n ∈ l, 0 ≤ n ∧ n < 1893456000
theorem putT_mem {l : List Int} {t n : Int} : n ∈ putT l t ↔ (n = t ∧ 0 ≤ t ∧ t < 1893456000) ∨ n ∈ l := by
  unfold putT
  split
  · rename_i h
    rw [insT_mem]
    constructor
    · rintro (q | q)
      · exact .inl ⟨q, h⟩
      · exact .inr q
    · rintro (q | q)
      · exact .inl q.1
      · exact .inr q
  · rename_i h
    constructor
    · exact fun q => .inr q
    · rintro (q | q)
      · exact absurd q.2 h
      · exact q
theorem putT_ok {l : List Int} {t : Int} (h : TimesOk l) : TimesOk (putT l t) :=
  ⟨by unfold putT; split; exact insT_sorted l h.rise; exact h.rise, fun n hn => by
    rcases putT_mem.1 hn with q | q
    · omega
    · exact h.bd n q⟩
theorem putsY_ok {r : Rl} {std : Int} {l : List Int} (h : TimesOk l) : ∀ k, TimesOk (putsY r std l k)
  | 0 => h
  | k + 1 => putT_ok (putsY_ok h k)
theorem putsS_ok {rs : List Rl} {std : Int} {l : List Int} (h : TimesOk l) : ∀ i, TimesOk (putsS rs std l i)
  | 0 => h
  | i + 1 => by
    unfold putsS
    cases rs[i]? with
    | none => exact putsS_ok h i
    | some r => exact putsY_ok (putsS_ok h i) _
theorem putsX_ok {d : Dt} {x : Er} {l : List Int} (h : TimesOk l) : TimesOk (putsX d x l) := by
  unfold putsX
  split
  · exact h
  · cases d.ss[x.set.toNat]? with
    | none => exact h
    | some s => exact putsS_ok h _
theorem putsE_ok {d : Dt} {es : List Er} : ∀ k, TimesOk (putsE d es k)
  | 0 => putT_ok ⟨List.Pairwise.nil, fun n hn => by cases hn⟩
  | k + 1 => by
    unfold putsE
    cases es[k]? with
    | none => exact putsE_ok k
    | some x => exact putsX_ok (putT_ok (putsE_ok k))
theorem putsY_keep {r : Rl} {std : Int} {l : List Int} {n : Int} (h : n ∈ l) : ∀ k, n ∈ putsY r std l k
  | 0 => h
  | k + 1 => putT_mem.2 (.inr (putsY_keep h k))
theorem putsS_keep {rs : List Rl} {std : Int} {l : List Int} {n : Int} (h : n ∈ l) : ∀ i, n ∈ putsS rs std l i
  | 0 => h
  | i + 1 => by
    unfold putsS
    cases rs[i]? with
    | none => exact putsS_keep h i
    | some r => exact putsY_keep (putsS_keep h i) _
theorem putsX_keep {d : Dt} {x : Er} {l : List Int} {n : Int} (h : n ∈ l) : n ∈ putsX d x l := by
  unfold putsX
  split
  · exact h
  · cases d.ss[x.set.toNat]? with
    | none => exact h
    | some s => exact putsS_keep h _
theorem putsY_has {r : Rl} {std : Int} {l : List Int} {i : Nat} (h0 : 0 ≤ r.g std (r.fy + i)) (h1 : r.g std (r.fy + i) < 1893456000) : ∀ k, i < k → r.g std (r.fy + i) ∈ putsY r std l k
  | 0, h => by omega
  | k + 1, h => by
    by_cases e : i = k
    · subst e; exact putT_mem.2 (.inl ⟨rfl, h0, h1⟩)
    · exact putT_mem.2 (.inr (putsY_has h0 h1 k (by omega)))
theorem putsS_has {rs : List Rl} {std : Int} {l : List Int} {j : Nat} {r : Rl} (hr : rs[j]? = some r) {y : Int} (hy1 : r.fy ≤ y) (hy2 : y ≤ r.ty) (h0 : 0 ≤ r.g std y) (h1 : r.g std y < 1893456000) : ∀ i, j < i → r.g std y ∈ putsS rs std l i
  | 0, h => by omega
  | i + 1, h => by
    unfold putsS
    by_cases e : j = i
    · subst e
      rw [hr]
      have ey : r.fy + ((y - r.fy).toNat : Int) = y := by omega
      have := putsY_has (r := r) (std := std) (l := putsS rs std l j) (i := (y - r.fy).toNat) (by rw [ey]; exact h0) (by rw [ey]; exact h1) (yearsN r) (by unfold yearsN; omega)
      rw [ey] at this
      exact this
    · have ih := putsS_has (std := std) (l := l) hr hy1 hy2 h0 h1 i (by omega)
      cases rs[i]? with
      | none => exact ih
      | some q => exact putsY_keep ih _
theorem putsE_step {d : Dt} {es : List Er} {k : Nat} {x : Er} (h : es[k]? = some x) : putsE d es (k + 1) = putsX d x (putT (putsE d es k) x.til) := by
  show (match es[k]? with | some x => putsX d x (putT (putsE d es k) x.til) | none => putsE d es k) = _
  rw [h]
theorem putsE_keep {d : Dt} {es : List Er} {n : Int} {k : Nat} (h : n ∈ putsE d es k) : ∀ m, k ≤ m → n ∈ putsE d es m
  | 0, hm => by rw [show 0 = k by omega]; exact h
  | m + 1, hm => by
    by_cases e : k = m + 1
    · rw [← e]; exact h
    · have ih := putsE_keep h m (by omega)
      unfold putsE
      cases es[m]? with
      | none => exact ih
      | some x => exact putsX_keep (putT_mem.2 (.inr ih))
theorem fst_le {α : Type} (p : α → Bool) : ∀ (l : List α) (k : Int) (j : Nat) (y : α), l[j]? = some y → p y = true → fst p l k ≤ k + j
  | [], k, j, y, h, _ => by simp at h
  | b :: t, k, 0, y, h, hp => by
    have hb : b = y := by simpa using h
    have e : fst p (b :: t) k = k := by show (if p b = true then k else fst p t (k + 1)) = k; rw [hb, if_pos hp]
    rw [e]; omega
  | b :: t, k, j + 1, y, h, hp => by
    have ih := fst_le p t (k + 1) j y (by simpa using h) hp
    by_cases hb : p b = true
    · have e : fst p (b :: t) k = k := by show (if p b = true then k else fst p t (k + 1)) = k; rw [if_pos hb]
      rw [e]; omega
    · have e : fst p (b :: t) k = fst p t (k + 1) := by show (if p b = true then k else fst p t (k + 1)) = _; rw [if_neg hb]
      rw [e]; omega
/-- the reference's times of a zone. -/
def timesZ (d : Dt) (z : Zn) : List Int := putsE d z.es z.es.length
theorem timesZ_ok (d : Dt) (z : Zn) : TimesOk (timesZ d z) := putsE_ok _
theorem timesZ_zero (d : Dt) (z : Zn) : (0 : Int) ∈ timesZ d z := putsE_keep (k := 0) (by show (0 : Int) ∈ putT [] 0; exact putT_mem.2 (.inl ⟨rfl, by omega, by omega⟩)) _ (Nat.zero_le _)
/-- each time at which something else begins to hold is among them. -/
theorem timesZ_all {d : Dt} (hd : RightE d) {z : Zn} (hz : z ∈ d.zs) {t : Int} (h0 : 0 < t) (h1 : t < 1893456000) (hn : t ∉ timesZ d z) : zoneO d z (t - 1) = zoneO d z t := by
  obtain ⟨x, hx, hxm, k0, k1, hxt⟩ := hd.era hz h1
  obtain ⟨i, hi⟩ : ∃ i : Nat, i = (eraK z.es t).toNat := ⟨_, rfl⟩
  rw [← hi] at hx
  have hil := (List.getElem?_eq_some_iff.1 hx).1
  have hp := hd.pos hz hx
  have hah : aheadOf z.es i ≤ t := by
    cases i with
    | zero => show (0 : Int) ≤ t; omega
    | succ m =>
      have hq := List.getElem?_eq_getElem (l := z.es) (i := m) (by omega)
      rw [ahead_step hq]
      apply Classical.byContradiction
      intro hlt
      have he : eraK z.es t ≤ m := by
        have hfst := fst_le (til t) z.es 0 m (z.es[m]'(by omega)) hq (by unfold til; simp; omega)
        unfold eraK
        omega
      omega
  have hne : aheadOf z.es i ≠ t := by
    intro e
    apply hn
    cases i with
    | zero => have : aheadOf z.es 0 = 0 := rfl; omega
    | succ m =>
      have hq := List.getElem?_eq_getElem (l := z.es) (i := m) (by omega)
      rw [ahead_step hq] at e
      refine putsE_keep (k := m + 1) ?_ _ (by omega)
      rw [putsE_step hq]
      exact putsX_keep (putT_mem.2 (.inl ⟨e.symm, by omega, by omega⟩))
  have hw : ∀ s, aheadOf z.es i ≤ s → s < x.til → zoneO d z s = offO d x s := fun s q1 q2 => by unfold zoneO; rw [hd.within hz hx q1 q2]
  rw [hw (t - 1) (by omega) (by omega), hw t (by omega) hxt]
  refine cuts_all (f := aheadOf z.es i) (by omega) hxt (fun hc => hn ?_)
  rw [cutsE_mem] at hc
  unfold timesE at hc
  rcases List.mem_cons.1 hc with e | hc
  · omega
  · split at hc
    · cases hc
    · rename_i hset
      cases hq : d.ss[x.set.toNat]? with
      | none => rw [hq] at hc; cases hc
      | some s =>
        rw [hq] at hc
        obtain ⟨_, j, r, hj, hr, y, y1, y2, ey⟩ := (timesS_mem _ (Nat.le_refl _)).1 hc
        refine putsE_keep (k := i + 1) ?_ _ (by omega)
        rw [putsE_step hx]
        unfold putsX
        rw [if_neg hset, hq]
        rw [ey]
        exact putsS_has hr y1 y2 (by omega) (by omega) _ hj
/-- the reference's turns: of the first k times. -/
def outR (H : Int → Of_) (l : List Int) : Nat → List Tn
  | 0 => []
  | k + 1 => match l[k]? with | some t => if k = 0 ∨ H (t - 1) ≠ H t then outR H l k ++ [offAt (H t) t] else outR H l k | none => outR H l k
theorem outR_step {H : Int → Of_} {l : List Int} {k : Nat} {t : Int} (h : l[k]? = some t) : outR H l (k + 1) = if k = 0 ∨ H (t - 1) ≠ H t then outR H l k ++ [offAt (H t) t] else outR H l k := by
  show (match l[k]? with | some t => if k = 0 ∨ H (t - 1) ≠ H t then outR H l k ++ [offAt (H t) t] else outR H l k | none => outR H l k) = _
  rw [h]
theorem outR_is {H : Int → Of_} {l : List Int} (hl : TimesOk l) (h0 : (0 : Int) ∈ l) (hc : ∀ t, 0 < t → t < 1893456000 → t ∉ l → H (t - 1) = H t) : ∀ (k : Nat) (m : Int), l[k]? = some m → outR H l (k + 1) = turnsN H m.toNat
  | 0, m, hm => by
    have hm0 : m = 0 := by
      obtain ⟨j, hj⟩ := List.getElem?_of_mem h0
      have hjl := (List.getElem?_eq_some_iff.1 hj).1
      have hml := (List.getElem?_eq_some_iff.1 hm).1
      have hb := hl.bd m (List.mem_of_getElem? hm)
      by_cases e : j = 0
      · subst e; rw [hm] at hj; injection hj
      · have := List.pairwise_iff_getElem.1 hl.rise 0 j (by omega) hjl (by omega)
        rw [List.getElem?_eq_getElem hjl] at hj
        rw [List.getElem?_eq_getElem hml] at hm
        injection hj with hj
        injection hm with hm
        omega
    rw [outR_step hm, if_pos (.inl rfl), hm0]
    rfl
  | k + 1, m, hm => by
    have hml := (List.getElem?_eq_some_iff.1 hm).1
    have hq := List.getElem?_eq_getElem (l := l) (i := k) (by omega)
    have ih := outR_is hl h0 hc k _ hq
    have hlt : l[k]'(by omega) < m := by
      have := List.pairwise_iff_getElem.1 hl.rise k (k + 1) (by omega) hml (by omega)
      rw [List.getElem?_eq_getElem hml] at hm
      injection hm with hm
      omega
    have hb1 := hl.bd _ (List.mem_of_getElem? hq)
    have hb2 := hl.bd m (List.mem_of_getElem? hm)
    obtain ⟨a, ha⟩ : ∃ a : Nat, (a : Int) = l[k]'(by omega) := ⟨(l[k]'(by omega)).toNat, by omega⟩
    obtain ⟨b, hb⟩ : ∃ b : Nat, (b : Int) + 1 = m := ⟨m.toNat - 1, by omega⟩
    have hgap : ∀ s : Int, l[k]'(by omega) < s → s < m → s ∉ l := fun s q1 q2 hs => by
      obtain ⟨j, hj⟩ := List.getElem?_of_mem hs
      have hjl := (List.getElem?_eq_some_iff.1 hj).1
      rw [List.getElem?_eq_getElem hjl] at hj
      rw [List.getElem?_eq_getElem hml] at hm
      injection hj with hj
      injection hm with hm
      rcases Nat.lt_trichotomy j k with e | e | e
      · have := List.pairwise_iff_getElem.1 hl.rise j k hjl (by omega) e; omega
      · subst e; omega
      · rcases Nat.lt_or_ge (k + 1) j with e2 | e2
        · have := List.pairwise_iff_getElem.1 hl.rise (k + 1) j hml hjl e2; omega
        · obtain rfl : j = k + 1 := by omega
          omega
    have hsame : turnsN H b = turnsN H a := turnsN_same b (by omega) fun s q1 q2 => by
      have := hc ((s : Int) + 1) (by omega) (by omega) (hgap _ (by omega) (by omega))
      rwa [show (s : Int) + 1 - 1 = s by omega] at this
    rw [outR_step hm, ih, ← hb, show (l[k]'(by omega)).toNat = a by omega, show ((b : Int) + 1).toNat = b + 1 by omega, show (b : Int) + 1 - 1 = b by omega]
    show _ = (if H (b : Int) = H ((b : Int) + 1) then turnsN H b else turnsN H b ++ [offAt (H ((b : Int) + 1)) ((b : Int) + 1)])
    by_cases e : H (b : Int) = H ((b : Int) + 1)
    · rw [if_neg (by rintro (q | q); omega; exact q e), if_pos e, hsame]
    · rw [if_pos (.inr e), if_neg e, hsame]
/-- the reference's table is the program's. -/
theorem outR_all {d : Dt} (hd : RightE d) {z : Zn} (hz : z ∈ d.zs) : outR (zoneO d z) (timesZ d z) (timesZ d z).length = compT d z := by
  have hl := timesZ_ok d z
  have h0 := timesZ_zero d z
  have hc : ∀ t, 0 < t → t < 1893456000 → t ∉ timesZ d z → zoneO d z (t - 1) = zoneO d z t := fun t q1 q2 q3 => timesZ_all hd hz q1 q2 q3
  obtain ⟨l, hll⟩ : ∃ l, l = timesZ d z := ⟨_, rfl⟩
  rw [← hll] at hl h0 hc ⊢
  have hpos : 0 < l.length := List.length_pos_of_mem h0
  obtain ⟨k, hk⟩ : ∃ k, l.length = k + 1 := ⟨l.length - 1, by omega⟩
  have hq := List.getElem?_eq_getElem (l := l) (i := k) (by omega)
  have hb := hl.bd _ (List.mem_of_getElem? hq)
  rw [hk, outR_is hl h0 hc k _ hq, compT_is hd hz]
  obtain ⟨n, hn⟩ : ∃ n : Nat, n = 1893455999 := ⟨_, rfl⟩
  rw [← hn]
  refine (turnsN_same n (by omega) fun s q1 q2 => ?_).symm
  have := hc ((s : Int) + 1) (by omega) (by omega) (fun hs => by
    obtain ⟨j, hj⟩ := List.getElem?_of_mem hs
    have hjl := (List.getElem?_eq_some_iff.1 hj).1
    rw [List.getElem?_eq_getElem hjl] at hj
    injection hj with hj
    by_cases e : j = k
    · subst e; omega
    · have := List.pairwise_iff_getElem.1 hl.rise j k hjl (by omega) (by omega)
      omega)
  rwa [show (s : Int) + 1 - 1 = s by omega] at this
end Gno
end
