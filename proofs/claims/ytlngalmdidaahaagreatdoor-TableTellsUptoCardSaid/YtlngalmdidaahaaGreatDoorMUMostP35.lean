/- Parts of a proof, laid together. -/
import Derived.Lib.Replace
import Derived.Test.YtlngalmdidaahaaGreatDoorMUMostP33
import Derived.Test.YtlngalmdidaahaaGreatDoorMUMostP32
set_option linter.unusedSimpArgs false
set_option linter.unusedVariables false
/-! Plain: what holds at a time, of right data. -/
section
set_option linter.unusedVariables false
set_option linter.unusedSimpArgs false
namespace Gno
open Go
def noSave (r : Rl) : Bool := r.sv == 0
/-- which rule holds: the last that has begun; else the first that saves nothing; -1: none. -/
noncomputable def offK (rs : List Rl) (std t : Int) : Int := if 0 ≤ (latest rs std t).1 then (latest rs std t).1 else fst noSave rs 0
noncomputable def offRl (rs : List Rl) (std t : Int) : Option Rl := if offK rs std t < 0 then none else rs[(offK rs std t).toNat]?
noncomputable def offR (d : Dt) (x : Er) (t : Int) : Option Rl := if x.set < 0 then none else match d.ss[x.set.toNat]? with | some s => offRl s.rs x.std t | none => none
noncomputable def offSv (d : Dt) (x : Er) (t : Int) : Int := match offR d x t with | some r => r.sv | none => x.save
noncomputable def offLe (d : Dt) (x : Er) (t : Int) : ByteArray := match offR d x t with | some r => r.le | none => ⟨#[]⟩
def repl (s le : ByteArray) : ByteArray := if markN s < 0 then s else s.extract 0 (markN s).toNat ++ le ++ s.extract ((markN s).toNat + 2) s.size
noncomputable def offAb (d : Dt) (x : Er) (t : Int) : ByteArray := repl x.fmt (offLe d x t)
noncomputable def offTo (d : Dt) (x : Er) (t : Int) : Int := x.std + offSv d x t
/-- the era of a time. -/
def til (t : Int) (x : Er) : Bool := decide (t < x.til)
def eraK (es : List Er) (t : Int) : Int := fst (til t) es 0
theorem offR_none {d : Dt} {x : Er} {t : Int} (h : x.set < 0) : offR d x t = none := by unfold offR; rw [if_pos h]
theorem offR_set {d : Dt} {x : Er} {t : Int} {s : St} (h : ¬ x.set < 0) (hs : d.ss[x.set.toNat]? = some s) : offR d x t = offRl s.rs x.std t := by unfold offR; rw [if_neg h, hs]
theorem off_none {d : Dt} {x : Er} {t : Int} (h : offR d x t = none) : offSv d x t = x.save ∧ offLe d x t = ⟨#[]⟩ := by unfold offSv offLe; rw [h]; exact ⟨rfl, rfl⟩
theorem off_some {d : Dt} {x : Er} {t : Int} {r : Rl} (h : offR d x t = some r) : offSv d x t = r.sv ∧ offLe d x t = r.le := by unfold offSv offLe; rw [h]; exact ⟨rfl, rfl⟩
theorem offK_range (rs : List Rl) (std t : Int) : -1 ≤ offK rs std t ∧ offK rs std t < rs.length := by
  unfold offK
  have h := latestTo_bd rs std t rs.length
  split
  · unfold latest; omega
  · rcases fst_range noSave rs 0 (by omega) with e | e <;> omega
theorem offRl_is {rs : List Rl} {std t : Int} (h : 0 ≤ offK rs std t) : ∃ r, rs[(offK rs std t).toNat]? = some r ∧ offRl rs std t = some r := by
  have hr := offK_range rs std t
  refine ⟨rs[(offK rs std t).toNat]'(by omega), List.getElem?_eq_getElem _, ?_⟩
  unfold offRl
  rw [if_neg (by omega)]
  exact List.getElem?_eq_getElem _
theorem offRl_no {rs : List Rl} {std t : Int} (h : offK rs std t < 0) : offRl rs std t = none := by unfold offRl; rw [if_pos h]
theorem offRl_mem {rs : List Rl} {std t : Int} {r : Rl} (h : offRl rs std t = some r) : r ∈ rs := by
  unfold offRl at h
  split at h
  · cases h
  · exact List.mem_of_getElem? h
theorem fst_is {α : Type} (p : α → Bool) : ∀ (l : List α) (k : Int), 0 ≤ k → 0 ≤ fst p l k → ∃ y, l[(fst p l k - k).toNat]? = some y ∧ p y = true
  | [], k, hk, h => by simp [fst] at h
  | a :: t, k, hk, h => by
    by_cases ha : p a = true
    · have e1 : fst p (a :: t) k = k := by show (if p a = true then k else fst p t (k + 1)) = k; rw [if_pos ha]
      rw [e1]
      exact ⟨a, by simp, ha⟩
    · have e1 : fst p (a :: t) k = fst p t (k + 1) := by show (if p a = true then k else fst p t (k + 1)) = _; rw [if_neg ha]
      rw [e1] at h ⊢
      obtain ⟨y, hy, hp⟩ := fst_is p t (k + 1) (by omega) h
      have hr : k + 1 ≤ fst p t (k + 1) := by rcases fst_range p t (k + 1) (by omega) with e | e <;> omega
      exact ⟨y, by rw [show (fst p t (k + 1) - k).toNat = (fst p t (k + 1) - (k + 1)).toNat + 1 by omega, List.getElem?_cons_succ]; exact hy, hp⟩
/-! what is right of data, more -/
structure RightE (d : Dt) : Prop extends Right d where
  rules : ∀ s ∈ d.ss, ∀ r ∈ s.rs, r.e = 0
  eras : ∀ z ∈ d.zs, ∀ i x, z.es[i]? = some x → eraOk d.sn x (aheadOf z.es i) = true
  ends : ∀ z ∈ d.zs, aheadOf z.es z.es.length = 1893456000
  fmts : ∀ z ∈ d.zs, ∀ x ∈ z.es, fmtOk x.fmt = true
theorem setsE_zero : ∀ {ss : List St}, setsE ss = 0 → ∀ s ∈ ss, firstE s.rs = 0
  | [], _, s, h => by cases h
  | a :: t, h, s, hs => by
    unfold setsE at h
    by_cases ha : firstE a.rs ≠ 0
    · rw [if_pos ha] at h; exact absurd h ha
    · rw [if_neg ha] at h
      rcases List.mem_cons.1 hs with rfl | hs
      · exact Classical.not_not.1 ha
      · exact setsE_zero h s hs
theorem aheads_mem {es : List Er} {i : Nat} {x : Er} (h : es[i]? = some x) : (x, aheadOf es i) ∈ aheads 0 es := by
  rw [aheads_split h, ← ahead_is]
  simp
theorem rightE_of {d : Dt} (h : dataE d = 0) : RightE d := by
  have hr := right_of h
  have h0 : manyD d = false := hr.many
  have h1 : dE1 d = 0 := by unfold dataE at h; rwa [if_neg (by rw [h0]; simp)] at h
  have h2 : dE2 d = 0 := by
    unfold dE1 at h1; split at h1
    · exact absurd h1 (by decide)
    · exact h1
  have h3 : dE3 d = 0 := by
    unfold dE2 at h2; split at h2
    · exact absurd h2 (by decide)
    · exact h2
  have h4 : dE4 d = 0 := by
    unfold dE3 at h3; split at h3
    · exact absurd h3 (by decide)
    · exact h3
  have h5 : dE5 d = 0 := by
    unfold dE4 at h4; split at h4
    · exact absurd h4 (by decide)
    · exact h4
  have hs : setsE d.ss = 0 := by
    unfold dE5 at h5; split at h5
    · exact h5
    · rename_i q; exact Classical.not_not.1 q
  have h6 : dE6 d = 0 := by unfold dE5 at h5; rwa [if_neg (by rw [hs]; simp)] at h5
  have he : (erasL d.zs).any (badE d) = false := by
    cases e : (erasL d.zs).any (badE d)
    · rfl
    · unfold dE6 at h6; rw [if_pos e] at h6; exact absurd h6 (by decide)
  have h7 : dE7 d = 0 := by unfold dE6 at h6; rwa [if_neg (by rw [he]; simp)] at h6
  have hn : anyI (fun _ => badEnd) d.zs = false := by
    cases e : anyI (fun _ => badEnd) d.zs
    · rfl
    · unfold dE7 at h7; rw [if_pos e] at h7; exact absurd h7 (by decide)
  have h8 : dE8 d = 0 := by unfold dE7 at h7; rwa [if_neg (by rw [hn]; simp)] at h7
  have hf : (erasL d.zs).any badF = false := by
    cases e : (erasL d.zs).any badF
    · rfl
    · unfold dE8 at h8; rw [if_pos e] at h8; exact absurd h8 (by decide)
  rw [List.any_eq_false] at he hf
  rw [anyI_any, List.any_eq_false] at hn
  have mem : ∀ z ∈ d.zs, ∀ i x, z.es[i]? = some x → (x, aheadOf z.es i) ∈ erasL d.zs := fun z hz i x hx => List.mem_flatMap.2 ⟨z, hz, aheads_mem hx⟩
  refine { toRight := hr, rules := fun s hs' => firstE_zero (setsE_zero hs s hs'), eras := fun z hz i x hx => ?_, ends := fun z hz => ?_, fmts := fun z hz x hx => ?_ }
  · have := he _ (mem z hz i x hx)
    unfold badE at this
    simpa using this
  · have := hn z hz
    unfold badEnd at this
    simpa using this
  · obtain ⟨i, hi⟩ := List.getElem?_of_mem hx
    have := hf _ (mem z hz i x hi)
    unfold badF at this
    simpa using this
theorem eraOk_is {ns : Int} {x : Er} {ah : Int} (h : eraOk ns x ah = true) : (-50400 ≤ x.std ∧ x.std ≤ 50400) ∧ (-1 ≤ x.set ∧ x.set < ns) ∧ (0 ≤ x.save ∧ x.save ≤ 7200) ∧ (x.set < 0 ∨ x.save = 0) ∧ ah < x.til := by
  unfold eraOk at h
  simpa [and_assoc] using h
theorem ahead_last {es : List Er} (h : 0 < es.length) : ∃ x, es[es.length - 1]? = some x ∧ aheadOf es es.length = x.til := by
  obtain ⟨n, hn⟩ : ∃ n, es.length = n + 1 := ⟨es.length - 1, by omega⟩
  have hx := List.getElem?_eq_getElem (l := es) (i := n) (by omega)
  refine ⟨es[n]'(by omega), by rw [show es.length - 1 = n by omega]; exact hx, ?_⟩
  have key : ∀ m, m = n + 1 → aheadOf es m = (es[n]'(by omega)).til := by
    rintro _ rfl
    simp only [aheadOf]
    rw [hx]
  exact key _ hn
/-- a time that there is has its era. -/
theorem RightE.era {d : Dt} (h : RightE d) {z : Zn} (hz : z ∈ d.zs) {t : Int} (h1 : t < 1893456000) :
    ∃ x, z.es[(eraK z.es t).toNat]? = some x ∧ x ∈ z.es ∧ 0 ≤ eraK z.es t ∧ eraK z.es t < z.es.length ∧ t < x.til := by
  have he := h.ends z hz
  have hpos : 0 < z.es.length := by
    rcases Nat.eq_zero_or_pos z.es.length with q | q
    · rw [q] at he; simp [aheadOf] at he
    · exact q
  obtain ⟨x, hx, hxe⟩ := ahead_last hpos
  have hnn : 0 ≤ eraK z.es t := (fst_nn (til t) z.es 0 (by omega)).2 ⟨x, List.mem_of_getElem? hx, by unfold til; simp; omega⟩
  have hr : eraK z.es t < z.es.length := by
    rcases fst_range (til t) z.es 0 (by omega) with e | e
    · unfold eraK; omega
    · unfold eraK; omega
  have hq := List.getElem?_eq_getElem (l := z.es) (i := (eraK z.es t).toNat) (by omega)
  refine ⟨_, hq, List.mem_of_getElem? hq, hnn, hr, ?_⟩
  have := fst_is (til t) z.es 0 (by omega) (show 0 ≤ fst (til t) z.es 0 from hnn)
  obtain ⟨y, hy, hp⟩ := this
  have e : (fst (til t) z.es 0 - 0).toNat = (eraK z.es t).toNat := by unfold eraK; congr 1; omega
  rw [e, hq] at hy
  injection hy with hy
  subst hy
  simpa [til] using hp
end Gno
end
/-! Plain: the first mark replaced. -/
section
set_option linter.unusedVariables false
set_option linter.unusedSimpArgs false
namespace Gno
open Go
theorem count_le (sub : List UInt8) : ∀ (f : Nat) (s : List UInt8), Lib.countFrom sub f s ≤ f
  | 0, s => by simp [Lib.countFrom]
  | f + 1, s => by
    unfold Lib.countFrom
    split
    · omega
    · have := count_le sub f (s.drop ((Lib.index s sub).toNat + sub.length)); omega
theorem count_zero {s sub : List UInt8} (h : Lib.count s sub = 0) : Lib.index s sub = -1 := by
  unfold Lib.count Lib.countFrom at h
  split at h
  · rename_i q; exact beq_iff_eq.1 q
  · omega
theorem bytes_ext {a b : ByteArray} (h : a.data.toList = b.data.toList) : a = b := by
  obtain ⟨⟨a⟩⟩ := a
  obtain ⟨⟨b⟩⟩ := b
  simp at h
  rw [h]
theorem ex_list (s : ByteArray) (i j : Nat) : (s.extract i j).data.toList = (s.data.toList.drop i).take (j - i) := by
  simp [ByteArray.data_extract, List.extract_eq_take_drop]
theorem repl_one (s le : ByteArray) (hne : (pct.data.toList == le.data.toList) = false) :
    (⟨(Lib.replace s.data.toList pct.data.toList le.data.toList 1).toArray⟩ : ByteArray) = repl s le := by
  unfold Lib.replace
  rw [if_neg (by rw [hne]; simp)]
  by_cases hc : Lib.count s.data.toList pct.data.toList = 0
  · have hi := count_zero hc
    have hm : markN s = -1 := hi
    have e0 : Lib.replaceNum s.data.toList pct.data.toList 1 = 0 := by
      unfold Lib.replaceNum
      rw [hc, if_pos (by omega)]
    rw [e0, Lib.replaceK]
    unfold repl
    rw [if_pos (by omega)]
  · obtain ⟨i, hi⟩ := Lib.index_of_count (s := s.data.toList) (old := pct.data.toList) (by omega)
    have hm : markN s = i := hi
    have e0 : Lib.replaceNum s.data.toList pct.data.toList 1 = 0 + 1 := by
      unfold Lib.replaceNum
      rw [if_neg (by omega)]; rfl
    rw [e0, Lib.replaceK_hit _ _ _ _ _ hi, Lib.replaceK]
    unfold repl
    rw [if_neg (by omega), hm]
    apply bytes_ext
    have hr : i + 2 ≤ s.size := by
      rcases mark_cases s with q | ⟨j, q, hj⟩
      · omega
      · omega
    rw [ByteArray.data_append, ByteArray.data_append, Array.toList_append, Array.toList_append, ex_list, ex_list]
    have hl : s.data.toList.length = s.size := by simp
    have ht : (s.data.toList.drop (i + 2)).take (s.size - (i + 2)) = s.data.toList.drop (i + 2) := List.take_of_length_le (by rw [List.length_drop, hl]; omega)
    simp only [Int.toNat_natCast, List.drop_zero, Nat.sub_zero, ht]
    rfl
end Gno
end
