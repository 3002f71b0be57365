/- Parts of a proof, laid together. -/
import Derived.Lib.SlicesCompact
import Derived.Test.YtlngalmdidaahaaGreatDoorMUMostP37
set_option linter.unusedSimpArgs false
set_option linter.unusedVariables false
/-! Plain: the turns of a zone. -/
section
set_option linter.unusedVariables false
set_option linter.unusedSimpArgs false
namespace Gno
open Go
/-- a turn: when, and what holds from then on. -/
structure Tn where
  a : Int
  tt : Int
  sv : Int
  ab : ByteArray
/-- does the last one say this? -/
def lastIs (out : List Tn) (tt sv : Int) (ab : ByteArray) : Bool := match out.getLast? with | some y => y.tt == tt && (y.sv == sv && y.ab.toList == ab.toList) | none => false
noncomputable def pushT (d : Dt) (x : Er) (out : List Tn) (t : Int) : List Tn := if lastIs out (offTo d x t) (offSv d x t) (offAb d x t) = true then out else out ++ [⟨t, offTo d x t, offSv d x t, offAb d x t⟩]
def inE (f u n : Int) : Bool := decide (f < n) && decide (n < u)
/-- when a rule begins in its first k years, within an era. -/
def timesY (r : Rl) (std f u : Int) : Nat → List Int
  | 0 => []
  | k + 1 => if inE f u (r.g std (r.fy + k)) = true then timesY r std f u k ++ [r.g std (r.fy + k)] else timesY r std f u k
def yearsN (r : Rl) : Nat := (r.ty - r.fy + 1).toNat
/-- .. the first i rules. -/
def timesS (rs : List Rl) (std f u : Int) : Nat → List Int
  | 0 => []
  | i + 1 => match rs[i]? with | some r => timesS rs std f u i ++ timesY r std f u (yearsN r) | none => timesS rs std f u i
def timesE (d : Dt) (x : Er) (f : Int) : List Int := f :: (if x.set < 0 then [] else match d.ss[x.set.toNat]? with | some s => timesS s.rs x.std f x.til s.rs.length | none => [])
def sortI (l : List Int) : List Int := l.mergeSort fun x y => decide (x ≤ y)
def cutsE (d : Dt) (x : Er) (f : Int) : List Int := Go.Lib.compact (sortI (timesE d x f))
noncomputable def eraT (d : Dt) (x : Er) (f : Int) (out : List Tn) : List Tn := (cutsE d x f).foldl (pushT d x) out
noncomputable def compUpTo (d : Dt) (es : List Er) : Nat → List Tn
  | 0 => []
  | k + 1 => match es[k]? with | some x => eraT d x (aheadOf es k) (compUpTo d es k) | none => compUpTo d es k
noncomputable def compT (d : Dt) (z : Zn) : List Tn := compUpTo d z.es z.es.length
noncomputable def tabN (d : Dt) (nm : ByteArray) : List Tn := if zoneEr d nm = 0 then compT d (oaZ d nm) else []
/-! the times -/
theorem timesY_mem {r : Rl} {std f u n : Int} : ∀ k : Nat, n ∈ timesY r std f u k ↔ inE f u n = true ∧ ∃ i : Nat, i < k ∧ n = r.g std (r.fy + i)
  | 0 => by simp [timesY]
  | k + 1 => by
    have ih := timesY_mem (r := r) (std := std) (f := f) (u := u) (n := n) k
    unfold timesY
    split
    · rename_i h
      rw [List.mem_append, ih, List.mem_singleton]
      constructor
      · rintro (⟨h1, i, h2, h3⟩ | rfl)
        · exact ⟨h1, i, by omega, h3⟩
        · exact ⟨h, k, by omega, rfl⟩
      · rintro ⟨h1, i, h2, h3⟩
        by_cases e : i = k
        · subst e; exact .inr h3
        · exact .inl ⟨h1, i, by omega, h3⟩
    · rename_i h
      rw [ih]
      constructor
      · rintro ⟨h1, i, h2, h3⟩; exact ⟨h1, i, by omega, h3⟩
      · rintro ⟨h1, i, h2, h3⟩
        by_cases e : i = k
        · subst e; rw [← h3] at h; exact absurd h1 h
        · exact ⟨h1, i, by omega, h3⟩
theorem timesS_mem {rs : List Rl} {std f u n : Int} : ∀ i : Nat, i ≤ rs.length → (n ∈ timesS rs std f u i ↔ inE f u n = true ∧ ∃ (j : Nat) (r : Rl), j < i ∧ rs[j]? = some r ∧ ∃ y, r.fy ≤ y ∧ y ≤ r.ty ∧ n = r.g std y)
  | 0, _ => by simp [timesS]
  | i + 1, hi => by
    have ih := timesS_mem (rs := rs) (std := std) (f := f) (u := u) (n := n) i (by omega)
    have hq := List.getElem?_eq_getElem (l := rs) (i := i) (by omega)
    unfold timesS
    rw [hq]
    show n ∈ _ ++ _ ↔ _
    rw [List.mem_append, ih, timesY_mem]
    constructor
    · rintro (⟨h1, j, r, h2, h3, h4⟩ | ⟨h1, k, h2, h3⟩)
      · exact ⟨h1, j, r, by omega, h3, h4⟩
      · exact ⟨h1, i, _, by omega, hq, rs[i].fy + k, by omega, by unfold yearsN at h2; omega, h3⟩
    · rintro ⟨h1, j, r, h2, h3, y, h4, h5, h6⟩
      by_cases e : j = i
      · subst e
        rw [hq] at h3
        injection h3 with h3
        subst h3
        exact .inr ⟨h1, (y - rs[j].fy).toNat, by unfold yearsN; omega, by rw [show rs[j].fy + ((y - rs[j].fy).toNat : Int) = y by omega]; exact h6⟩
      · exact .inl ⟨h1, j, r, by omega, h3, y, h4, h5, h6⟩
/-! sorted, each once -/
theorem sortI_mem {l : List Int} {n : Int} : n ∈ sortI l ↔ n ∈ l := (List.mergeSort_perm l _).mem_iff
theorem sortI_len (l : List Int) : (sortI l).length = l.length := (List.mergeSort_perm l _).length_eq
theorem sortI_sorted (l : List Int) : (sortI l).Pairwise (· ≤ ·) := by
  have := List.pairwise_mergeSort (le := fun x y : Int => decide (x ≤ y)) (by intro a b c; simp; omega) (by intro a b; simp; omega) l
  exact this.imp fun h => by simpa using h
theorem keep_some (a : Array Int) : ∀ j, j < a.size → a[j]! ∈ ((List.range a.size).filter (Go.Lib.keeps a)).map (a[·]!)
  | j, hj => by
    by_cases hk : Go.Lib.keeps a j = true
    · exact List.mem_map.2 ⟨j, List.mem_filter.2 ⟨List.mem_range.2 hj, hk⟩, rfl⟩
    · have h0 : j ≠ 0 := by rintro rfl; exact hk (by simp [Go.Lib.keeps])
      have h1 : a[j]! = a[j - 1]! := Classical.byContradiction fun q => hk (Go.Lib.keeps_pos q)
      rw [h1]
      exact keep_some a (j - 1) (by omega)
theorem compact_mem {l : List Int} {n : Int} : n ∈ Go.Lib.compact l ↔ n ∈ l := by
  unfold Go.Lib.compact Go.Lib.compactUpTo
  constructor
  · intro h
    obtain ⟨j, hj, rfl⟩ := List.mem_map.1 h
    have hj := List.mem_range.1 (List.mem_filter.1 hj).1
    have : j < l.toArray.size := by simpa using hj
    rw [getElem!_pos l.toArray j this]
    simp
  · intro h
    obtain ⟨j, hj, rfl⟩ := List.mem_iff_getElem.1 h
    have := keep_some l.toArray j (by simpa using hj)
    rw [getElem!_pos l.toArray j (by simpa using hj)] at this
    simpa using this
theorem compact_sorted {l : List Int} (h : l.Pairwise (· ≤ ·)) : (Go.Lib.compact l).Pairwise (· ≤ ·) := by
  unfold Go.Lib.compact Go.Lib.compactUpTo
  rw [List.pairwise_map]
  refine (List.Pairwise.filter _ List.pairwise_lt_range).imp_of_mem ?_
  intro i j hi hj hij
  have hi := List.mem_range.1 (List.mem_filter.1 hi).1
  have hj := List.mem_range.1 (List.mem_filter.1 hj).1
  rw [getElem!_pos l.toArray i (by simpa using hi), getElem!_pos l.toArray j (by simpa using hj)]
  simpa using List.pairwise_iff_getElem.1 h i j hi hj hij
theorem compact_len (l : List Int) : (Go.Lib.compact l).length ≤ l.length := by
  unfold Go.Lib.compact Go.Lib.compactUpTo
  rw [List.length_map]
  have := List.length_filter_le (Go.Lib.keeps l.toArray) (List.range l.length)
  simpa using this
theorem cutsE_mem {d : Dt} {x : Er} {f n : Int} : n ∈ cutsE d x f ↔ n ∈ timesE d x f := by unfold cutsE; rw [compact_mem, sortI_mem]
theorem cutsE_sorted (d : Dt) (x : Er) (f : Int) : (cutsE d x f).Pairwise (· ≤ ·) := compact_sorted (sortI_sorted _)
end Gno
end
/-! Plain: the turns are just where something else holds than a second ahead. -/
section
set_option linter.unusedVariables false
set_option linter.unusedSimpArgs false
namespace Gno
open Go
structure Of_ where
  tt : Int
  sv : Int
  ab : ByteArray
deriving DecidableEq
def Tn.off (y : Tn) : Of_ := ⟨y.tt, y.sv, y.ab⟩
def offAt (o : Of_) (t : Int) : Tn := ⟨t, o.tt, o.sv, o.ab⟩
/-- the turns up to a time of what holds by H. -/
def turnsN (H : Int → Of_) : Nat → List Tn
  | 0 => [offAt (H 0) 0]
  | n + 1 => if H (n : Int) = H ((n : Int) + 1) then turnsN H n else turnsN H n ++ [offAt (H ((n : Int) + 1)) ((n : Int) + 1)]
theorem turnsN_same {H : Int → Of_} {m : Nat} : ∀ n : Nat, m ≤ n → (∀ t : Nat, m ≤ t → t < n → H (t : Int) = H ((t : Int) + 1)) → turnsN H n = turnsN H m
  | 0, h, _ => by rw [show m = 0 by omega]
  | n + 1, h, hc => by
    by_cases e : m = n + 1
    · rw [e]
    · have ih := turnsN_same (H := H) (m := m) n (by omega) (fun t h1 h2 => hc t h1 (by omega))
      show (if H (n : Int) = H ((n : Int) + 1) then turnsN H n else _) = _
      rw [if_pos (hc n (by omega) (by omega)), ih]
theorem turnsN_last {H : Int → Of_} : ∀ n : Nat, ∃ y, (turnsN H n).getLast? = some y ∧ y.off = H n
  | 0 => ⟨_, rfl, rfl⟩
  | n + 1 => by
    show ∃ y, (if H (n : Int) = H ((n : Int) + 1) then turnsN H n else turnsN H n ++ [offAt (H ((n : Int) + 1)) ((n : Int) + 1)]).getLast? = some y ∧ _
    by_cases h : H (n : Int) = H ((n : Int) + 1)
    · rw [if_pos h]
      obtain ⟨y, h1, h2⟩ := turnsN_last (H := H) n
      exact ⟨y, h1, h2.trans h⟩
    · rw [if_neg h]
      exact ⟨_, List.getLast?_concat, by rw [show ((n + 1 : Nat) : Int) = (n : Int) + 1 by omega]; rfl⟩
theorem lastIs_iff {l : List Tn} {y : Tn} (h : l.getLast? = some y) (o : Of_) : lastIs l o.tt o.sv o.ab = true ↔ y.off = o := by
  unfold lastIs
  rw [h]
  obtain ⟨a, b, c⟩ := o
  obtain ⟨u, p, q, r⟩ := y
  show (p == a && (q == b && r.toList == c.toList)) = true ↔ Of_.mk p q r = Of_.mk a b c
  have hc : r.toList = c.toList ↔ r = c := ⟨fun e => by
    rw [ByteArray.toList_eq, ByteArray.toList_eq] at e
    obtain ⟨⟨r⟩⟩ := r
    obtain ⟨⟨c⟩⟩ := c
    simp only at e
    rw [e], fun e => by rw [e]⟩
  simp [hc]
/-- what is told at a time: pushed if it is something else. -/
def pushO (H : Int → Of_) (out : List Tn) (t : Int) : List Tn := if lastIs out (H t).tt (H t).sv (H t).ab = true then out else out ++ [offAt (H t) t]
theorem pushO_next {H : Int → Of_} {n : Nat} : pushO H (turnsN H n) ((n : Int) + 1) = turnsN H (n + 1) := by
  obtain ⟨y, h1, h2⟩ := turnsN_last (H := H) n
  have hl := lastIs_iff h1 (H ((n : Int) + 1))
  unfold pushO
  show _ = (if H (n : Int) = H ((n : Int) + 1) then turnsN H n else turnsN H n ++ [offAt (H ((n : Int) + 1)) ((n : Int) + 1)])
  by_cases h : H (n : Int) = H ((n : Int) + 1)
  · rw [if_pos h, if_pos (hl.2 (h2.trans h))]
  · rw [if_neg h, if_neg (fun q => h (h2.symm.trans (hl.1 q)))]
theorem pushO_again {H : Int → Of_} {n : Nat} : pushO H (turnsN H n) (n : Int) = turnsN H n := by
  obtain ⟨y, h1, h2⟩ := turnsN_last (H := H) n
  unfold pushO
  rw [if_pos ((lastIs_iff h1 (H (n : Int))).2 h2)]
theorem pushO_first {H : Int → Of_} : pushO H [] 0 = turnsN H 0 := rfl
/-- from a time on, by cuts among which are all at which something else begins to hold. -/
theorem push_cuts {H : Int → Of_} {u : Nat} : ∀ (cs : List Int) (c : Nat), c < u → (∀ n ∈ cs, (c : Int) ≤ n ∧ n < u) → cs.Pairwise (· ≤ ·) → (∀ t : Nat, c < t → t < u → (t : Int) ∉ cs → H ((t : Int) - 1) = H t) →
    cs.foldl (pushO H) (turnsN H c) = turnsN H (u - 1)
  | [], c, hcu, _, _, hc => by
    refine (turnsN_same (u - 1) (by omega) fun t h1 h2 => ?_).symm
    have := hc (t + 1) (by omega) (by omega) (by simp)
    rwa [show ((t + 1 : Nat) : Int) - 1 = t by omega, show ((t + 1 : Nat) : Int) = (t : Int) + 1 by omega] at this
  | a :: rest, c, hcu, hin, hs, hc => by
    obtain ⟨hs1, hs2⟩ := List.pairwise_cons.1 hs
    obtain ⟨ha1, ha2⟩ := hin a (by simp)
    obtain ⟨k, rfl⟩ : ∃ k : Nat, (k : Int) = a := ⟨a.toNat, by omega⟩
    have hk : pushO H (turnsN H c) (k : Int) = turnsN H k := by
      by_cases e : k = c
      · rw [e]; exact pushO_again
      · obtain ⟨j, rfl⟩ : ∃ j, k = j + 1 := ⟨k - 1, by omega⟩
        have : turnsN H j = turnsN H c := turnsN_same j (by omega) fun t h1 h2 => by
          have := hc (t + 1) (by omega) (by omega) (fun q => by
            rcases List.mem_cons.1 q with q | q
            · omega
            · have := hs1 _ q; omega)
          rwa [show ((t + 1 : Nat) : Int) - 1 = t by omega, show ((t + 1 : Nat) : Int) = (t : Int) + 1 by omega] at this
        rw [← this]
        exact pushO_next
    show List.foldl (pushO H) (pushO H (turnsN H c) (k : Int)) rest = _
    rw [hk]
    refine push_cuts rest k (by omega) (fun n hn => ⟨hs1 n hn, (hin n (by simp [hn])).2⟩) hs2 (fun t h1 h2 h3 => hc t (by omega) h2 fun q => ?_)
    rcases List.mem_cons.1 q with q | q
    · omega
    · exact h3 q
/-! what holds changes at the times alone -/
theorem topOf_same {g : Int → Int} {lo hi s t : Int} (h : ∀ y, lo ≤ y → y ≤ hi → (g y ≤ s ↔ g y ≤ t)) : topOf g lo hi s = topOf g lo hi t := by
  have key : ∀ m, IsTop g lo hi s m ↔ IsTop g lo hi t m := fun m => by
    constructor
    · rintro ⟨y, h1, h2, h3, h4, h5⟩
      exact ⟨y, h1, h2, h3, by have := (h y h1 h2).1 (by omega); omega, fun z q1 q2 => by have := h z (by omega) q2; have := h5 z q1 q2; omega⟩
    · rintro ⟨y, h1, h2, h3, h4, h5⟩
      exact ⟨y, h1, h2, h3, by have := (h y h1 h2).2 (by omega); omega, fun z q1 q2 => by have := h z (by omega) q2; have := h5 z q1 q2; omega⟩
  by_cases hx : ∃ m, IsTop g lo hi s m
  · obtain ⟨m, hm⟩ := hx
    rw [topOf_some hm, topOf_some ((key m).1 hm)]
  · have e1 : topOf g lo hi s = none := by unfold topOf; rw [dif_neg hx]
    have e2 : topOf g lo hi t = none := by unfold topOf; rw [dif_neg fun ⟨m, hm⟩ => hx ⟨m, (key m).2 hm⟩]
    rw [e1, e2]
theorem latestTo_same {rs : List Rl} {std s t : Int} (h : ∀ (j : Nat) r, rs[j]? = some r → ∀ y, r.fy ≤ y → y ≤ r.ty → (r.g std y ≤ s ↔ r.g std y ≤ t)) : ∀ i, latestTo rs std s i = latestTo rs std t i
  | 0 => rfl
  | i + 1 => by
    have ih := latestTo_same h i
    show (match rs[i]? with | some r => lstep i (latestTo rs std s i) (r.top std s) | none => latestTo rs std s i) = (match rs[i]? with | some r => lstep i (latestTo rs std t i) (r.top std t) | none => latestTo rs std t i)
    cases hr : rs[i]? with
    | none => exact ih
    | some r =>
      show lstep i (latestTo rs std s i) (r.top std s) = lstep i (latestTo rs std t i) (r.top std t)
      rw [ih]
      unfold Rl.top
      rw [topOf_same (h i r hr)]
theorem offR_same {d : Dt} {x : Er} {s t : Int} (h : ¬ x.set < 0 → ∀ q, d.ss[x.set.toNat]? = some q → ∀ (j : Nat) r, q.rs[j]? = some r → ∀ y, r.fy ≤ y → y ≤ r.ty → (r.g x.std y ≤ s ↔ r.g x.std y ≤ t)) : offR d x s = offR d x t := by
  by_cases hx : x.set < 0
  · rw [offR_none hx, offR_none hx]
  · cases hq : d.ss[x.set.toNat]? with
    | none => unfold offR; rw [if_neg hx, if_neg hx, hq]
    | some q =>
      rw [offR_set hx hq, offR_set hx hq]
      have hl : latest q.rs x.std s = latest q.rs x.std t := latestTo_same (h hx q hq) _
      unfold offRl offK
      rw [hl]
noncomputable def offO (d : Dt) (x : Er) (t : Int) : Of_ := ⟨offTo d x t, offSv d x t, offAb d x t⟩
theorem offO_same {d : Dt} {x : Er} {s t : Int} (h : offR d x s = offR d x t) : offO d x s = offO d x t := by
  unfold offO offTo offAb offSv offLe
  rw [h]
/-- what holds in a zone at a time. -/
noncomputable def zoneO (d : Dt) (z : Zn) (t : Int) : Of_ := offO d (eraOf z t) t
theorem pushT_is {d : Dt} {x : Er} {H : Int → Of_} {t : Int} (h : H t = offO d x t) (out : List Tn) : pushT d x out t = pushO H out t := by
  unfold pushT pushO
  rw [h]
  rfl
theorem foldl_same {α β : Type} {f g : β → α → β} : ∀ (l : List α) (b : β), (∀ a ∈ l, ∀ b, f b a = g b a) → l.foldl f b = l.foldl g b
  | [], _, _ => rfl
  | a :: t, b, h => by
    show t.foldl f (f b a) = t.foldl g (g b a)
    rw [h a (by simp)]
    exact foldl_same t _ fun x hx => h x (by simp [hx])
/-- when an era's cuts are. -/
theorem cuts_in {d : Dt} {x : Er} {f : Int} (hf : f < x.til) : ∀ n ∈ cutsE d x f, f ≤ n ∧ n < x.til := by
  intro n hn
  rw [cutsE_mem] at hn
  unfold timesE at hn
  rcases List.mem_cons.1 hn with rfl | hn
  · exact ⟨Int.le_refl _, hf⟩
  · split at hn
    · cases hn
    · split at hn
      · have := ((timesS_mem _ (Nat.le_refl _)).1 hn).1
        unfold inE at this
        simp at this
        omega
      · cases hn
/-- where no cut is nothing else begins to hold. -/
theorem cuts_all {d : Dt} {x : Er} {f t : Int} (h1 : f < t) (h2 : t < x.til) (hn : t ∉ cutsE d x f) : offO d x (t - 1) = offO d x t := by
  refine offO_same (offR_same fun hx q hq j r hr y y1 y2 => ?_)
  constructor
  · intro h; omega
  · intro h
    by_cases e : r.g x.std y = t
    · exfalso
      apply hn
      rw [cutsE_mem]
      unfold timesE
      rw [if_neg hx, hq]
      exact List.mem_cons_of_mem _ ((timesS_mem _ (Nat.le_refl _)).2 ⟨by unfold inE; simp; omega, j, r, (List.getElem?_eq_some_iff.1 hr).1, hr, y, y1, y2, e.symm⟩)
    · omega
/-- an era's turns. -/
theorem eraT_is {d : Dt} (hd : RightE d) {z : Zn} (hz : z ∈ d.zs) {i : Nat} {x : Er} (hx : z.es[i]? = some x) (out : List Tn) (hout : if i = 0 then out = [] else out = turnsN (zoneO d z) ((aheadOf z.es i).toNat - 1)) :
    eraT d x (aheadOf z.es i) out = turnsN (zoneO d z) (x.til.toNat - 1) := by
  obtain ⟨p1, p2, p3, p4⟩ := hd.pos hz hx
  have hH : ∀ t, aheadOf z.es i ≤ t → t < x.til → zoneO d z t = offO d x t := fun t h1 h2 => by unfold zoneO; rw [hd.within hz hx h1 h2]
  obtain ⟨f, hf⟩ : ∃ f : Nat, (f : Int) = aheadOf z.es i := ⟨(aheadOf z.es i).toNat, by omega⟩
  obtain ⟨u, hu⟩ : ∃ u : Nat, (u : Int) = x.til := ⟨x.til.toNat, by omega⟩
  have hin := cuts_in (d := d) (x := x) p4
  have hso := cutsE_sorted d x (aheadOf z.es i)
  have hall := fun t (h1 : aheadOf z.es i < t) (h2 : t < x.til) hn => cuts_all (d := d) (x := x) h1 h2 hn
  have hfm : aheadOf z.es i ∈ cutsE d x (aheadOf z.es i) := by rw [cutsE_mem]; unfold timesE; simp
  unfold eraT
  rw [foldl_same (cutsE d x (aheadOf z.es i)) out (g := pushO (zoneO d z)) (fun t ht b => pushT_is (hH t (hin t ht).1 (hin t ht).2) b)]
  obtain ⟨cs, hcs⟩ : ∃ cs, cs = cutsE d x (aheadOf z.es i) := ⟨_, rfl⟩
  rw [← hcs] at hin hso hall hfm ⊢
  clear hcs
  cases cs with
  | nil => cases hfm
  | cons a rest =>
    obtain ⟨hs1, hs2⟩ := List.pairwise_cons.1 hso
    have ha : a = aheadOf z.es i := by
      have h1 := (hin a (by simp)).1
      rcases List.mem_cons.1 hfm with h | h
      · exact h.symm
      · have := hs1 _ h; omega
    have hpush : pushO (zoneO d z) out a = turnsN (zoneO d z) f := by
      rw [ha, ← hf]
      by_cases h0 : i = 0
      · rw [if_pos h0] at hout
        subst h0
        have : (f : Int) = 0 := hf
        obtain rfl : f = 0 := by omega
        rw [hout]
        exact pushO_first
      · rw [if_neg h0] at hout
        have hf0 : 0 < f := by
          have : 0 < aheadOf z.es i := by
            obtain ⟨j, rfl⟩ : ∃ j, i = j + 1 := ⟨i - 1, by omega⟩
            have hi := (List.getElem?_eq_some_iff.1 hx).1
            have hq := List.getElem?_eq_getElem (l := z.es) (i := j) (by omega)
            have e : aheadOf z.es (j + 1) = (z.es[j]'(by omega)).til := by simp only [aheadOf]; rw [hq]
            rw [e]
            exact (hd.pos hz hq).1
          omega
        obtain ⟨k, rfl⟩ : ∃ k, f = k + 1 := ⟨f - 1, by omega⟩
        rw [hout, ← hf, show ((k + 1 : Nat) : Int).toNat - 1 = k by omega, show ((k + 1 : Nat) : Int) = (k : Int) + 1 by omega]
        exact pushO_next
    show List.foldl (pushO (zoneO d z)) (pushO (zoneO d z) out a) rest = _
    rw [hpush, ← hu, Int.toNat_natCast]
    refine push_cuts rest f (by omega) (fun n hn => ?_) hs2 (fun t h1 h2 h3 => ?_)
    · have := hin n (by simp [hn]); omega
    · have := hall t (by omega) (by omega) (fun q => by
        rcases List.mem_cons.1 q with q | q
        · omega
        · exact h3 q)
      rw [hH _ (by omega) (by omega), hH _ (by omega) (by omega)]
      exact this
theorem compUpTo_is {d : Dt} (hd : RightE d) {z : Zn} (hz : z ∈ d.zs) : ∀ k, k ≤ z.es.length → if k = 0 then compUpTo d z.es k = [] else compUpTo d z.es k = turnsN (zoneO d z) ((aheadOf z.es k).toNat - 1)
  | 0, _ => by rw [if_pos rfl]; rfl
  | k + 1, hk => by
    have ih := compUpTo_is hd hz k (by omega)
    have hq := List.getElem?_eq_getElem (l := z.es) (i := k) (by omega)
    rw [if_neg (by omega)]
    have e : aheadOf z.es (k + 1) = (z.es[k]'(by omega)).til := by simp only [aheadOf]; rw [hq]
    rw [e]
    show (match z.es[k]? with | some x => eraT d x (aheadOf z.es k) (compUpTo d z.es k) | none => compUpTo d z.es k) = _
    rw [hq]
    exact eraT_is hd hz hq _ ih
/-- a zone's turns. -/
theorem compT_is {d : Dt} (hd : RightE d) {z : Zn} (hz : z ∈ d.zs) : compT d z = turnsN (zoneO d z) 1893455999 := by
  have h := compUpTo_is hd hz z.es.length (Nat.le_refl _)
  have he := hd.ends z hz
  have hne : z.es.length ≠ 0 := by
    intro q
    rw [q] at he
    simp [aheadOf] at he
  rw [if_neg hne, he] at h
  exact h
end Gno
end
/-! Plain: how many times and turns there are at most; the steps of the walk. -/
section
set_option linter.unusedVariables false
set_option linter.unusedSimpArgs false
namespace Gno
open Go
theorem timesY_len {r : Rl} {std f u : Int} : ∀ k, (timesY r std f u k).length ≤ k
  | 0 => by simp [timesY]
  | k + 1 => by
    have ih := timesY_len (r := r) (std := std) (f := f) (u := u) k
    unfold timesY
    split
    · rw [List.length_append]; simp; omega
    · omega
theorem years_few {r : Rl} (h : r.e = 0) : (1970 ≤ r.fy ∧ r.ty ≤ 2029) ∧ yearsN r ≤ 60 := by
  obtain ⟨hb, _⟩ := ruleE_zero h
  obtain ⟨p1, p2, p3, _⟩ := (ruleBasic_iff _ _ _ _ _).1 hb
  unfold yearsN
  omega
theorem timesS_len {rs : List Rl} {std f u : Int} (h : ∀ r ∈ rs, r.e = 0) : ∀ i, (timesS rs std f u i).length ≤ 60 * i
  | 0 => by simp [timesS]
  | i + 1 => by
    have ih := timesS_len (std := std) (f := f) (u := u) h i
    unfold timesS
    cases hr : rs[i]? with
    | none => simp only; omega
    | some r =>
      have h1 := timesY_len (r := r) (std := std) (f := f) (u := u) (yearsN r)
      have h2 := (years_few (h r (List.mem_of_getElem? hr))).2
      simp only [List.length_append]
      omega
theorem rules_few {d : Dt} (h : dataE d = 0) {s : St} (hs : s ∈ d.ss) : s.n ≤ 4 := by
  have h0 : manyD d = false := (right_of h).many
  have h1 : dE1 d = 0 := by unfold dataE at h; rwa [if_neg (by rw [h0]; simp)] at h
  have h3 : anyI (fun _ => manyRules) d.ss = false := by
    cases e : anyI (fun _ => manyRules) d.ss
    · rfl
    · unfold dE1 at h1; rw [if_pos e] at h1; exact absurd h1 (by decide)
  rw [anyI_any, List.any_eq_false] at h3
  have := h3 s hs
  unfold manyRules at this
  simp at this
  omega
theorem cutsE_len {d : Dt} (hd : RightE d) {x : Er} {f : Int} (hf : ∀ s ∈ d.ss, s.rs.length ≤ 4) : (cutsE d x f).length ≤ 241 := by
  have h1 := compact_len (sortI (timesE d x f))
  rw [sortI_len] at h1
  have h2 : (timesE d x f).length ≤ 241 := by
    unfold timesE
    split
    · simp
    · cases hq : d.ss[x.set.toNat]? with
      | none => simp
      | some s =>
        have h3 := timesS_len (std := x.std) (f := f) (u := x.til) (hd.rules s (List.mem_of_getElem? hq)) s.rs.length
        have h4 := hf s (List.mem_of_getElem? hq)
        simp only [List.length_cons]
        omega
  unfold cutsE
  omega
theorem pushT_len {d : Dt} {x : Er} {out : List Tn} {t : Int} : (pushT d x out t).length ≤ out.length + 1 := by
  unfold pushT
  split
  · omega
  · simp
theorem push_len {d : Dt} {x : Er} : ∀ (cs : List Int) (out : List Tn), (cs.foldl (pushT d x) out).length ≤ out.length + cs.length
  | [], out => by simp
  | c :: cs, out => by
    have := push_len (d := d) (x := x) cs (pushT d x out c)
    have h := pushT_len (d := d) (x := x) (out := out) (t := c)
    simp only [List.foldl_cons, List.length_cons]
    omega
theorem comp_len {d : Dt} (hd : RightE d) (hf : ∀ s ∈ d.ss, s.rs.length ≤ 4) (es : List Er) : ∀ k, (compUpTo d es k).length ≤ 241 * k
  | 0 => by simp [compUpTo]
  | k + 1 => by
    have ih := comp_len hd hf es k
    unfold compUpTo
    cases hr : es[k]? with
    | none => simp only; omega
    | some x =>
      have h1 := push_len (d := d) (x := x) (cutsE d x (aheadOf es k)) (compUpTo d es k)
      have h2 := cutsE_len hd (x := x) (f := aheadOf es k) hf
      simp only
      unfold eraT
      omega
/-! steps -/
theorem timesS_step {rs : List Rl} {std f u : Int} {i : Nat} {r : Rl} (h : rs[i]? = some r) : timesS rs std f u (i + 1) = timesS rs std f u i ++ timesY r std f u (yearsN r) := by
  show (match rs[i]? with | some r => timesS rs std f u i ++ timesY r std f u (yearsN r) | none => timesS rs std f u i) = _
  rw [h]
theorem timesY_yes {r : Rl} {std f u : Int} {k : Nat} (h : inE f u (r.g std (r.fy + k)) = true) : timesY r std f u (k + 1) = timesY r std f u k ++ [r.g std (r.fy + k)] := by
  show (if inE f u (r.g std (r.fy + k)) = true then timesY r std f u k ++ [r.g std (r.fy + k)] else timesY r std f u k) = _
  rw [if_pos h]
theorem timesY_no {r : Rl} {std f u : Int} {k : Nat} (h : inE f u (r.g std (r.fy + k)) = false) : timesY r std f u (k + 1) = timesY r std f u k := by
  show (if inE f u (r.g std (r.fy + k)) = true then timesY r std f u k ++ [r.g std (r.fy + k)] else timesY r std f u k) = _
  rw [if_neg (by simp [h])]
theorem timesE_set {d : Dt} {x : Er} {f : Int} {s : St} (h : ¬ x.set < 0) (hs : d.ss[x.set.toNat]? = some s) : timesE d x f = f :: timesS s.rs x.std f x.til s.rs.length := by
  unfold timesE
  rw [if_neg h, hs]
theorem timesE_bare {d : Dt} {x : Er} {f : Int} (h : x.set < 0) : timesE d x f = [f] := by
  unfold timesE
  rw [if_pos h]
theorem fold_take {α β : Type} {f : β → α → β} {l : List α} {b : β} {i : Nat} {a : α} (h : l[i]? = some a) : (l.take (i + 1)).foldl f b = f ((l.take i).foldl f b) a := by
  rw [List.take_add_one, h]
  simp [List.foldl_append]
theorem comp_step {d : Dt} {es : List Er} {k : Nat} {x : Er} (h : es[k]? = some x) : compUpTo d es (k + 1) = eraT d x (aheadOf es k) (compUpTo d es k) := by
  show (match es[k]? with | some x => eraT d x (aheadOf es k) (compUpTo d es k) | none => compUpTo d es k) = _
  rw [h]
theorem ahead_step {es : List Er} {k : Nat} {x : Er} (h : es[k]? = some x) : aheadOf es (k + 1) = x.til := by simp only [aheadOf]; rw [h]
theorem pushT_yes {d : Dt} {x : Er} {out : List Tn} {t : Int} (h : lastIs out (offTo d x t) (offSv d x t) (offAb d x t) = true) : pushT d x out t = out := by unfold pushT; rw [if_pos h]
theorem pushT_no {d : Dt} {x : Er} {out : List Tn} {t : Int} (h : lastIs out (offTo d x t) (offSv d x t) (offAb d x t) = false) : pushT d x out t = out ++ [⟨t, offTo d x t, offSv d x t, offAb d x t⟩] := by unfold pushT; rw [if_neg (by simp [h])]
theorem lastIs_none {tt sv : Int} {ab : ByteArray} : lastIs [] tt sv ab = false := rfl
theorem lastIs_some {l : List Tn} {i : Nat} {y : Tn} (h : l[i]? = some y) (hi : i + 1 = l.length) (tt sv : Int) (ab : ByteArray) : lastIs l tt sv ab = (y.tt == tt && (y.sv == sv && y.ab.toList == ab.toList)) := by
  have : l.getLast? = some y := by rw [List.getLast?_eq_getElem?, ← hi, Nat.add_sub_cancel]; exact h
  unfold lastIs
  rw [this]
end Gno
end
