/- Parts of a proof, laid together. -/
import Derived.Test.YtlngalmdidaahaaGreatDoorMUMostP36
import Derived.Test.YtlngalmdidaahaaGreatDoorMUMostP13
import Derived.Test.YtlngalmdidaahaaGreatDoorMUMostP34
set_option linter.unusedSimpArgs false
set_option linter.unusedVariables false
/-! Plain: what holds is bounded; a link has what its zone has. -/
section
set_option linter.unusedVariables false
set_option linter.unusedSimpArgs false
namespace Gno
open Go
theorem repl_size {s le : ByteArray} (hs : s.size ≤ 12) (hl : le.size ≤ 12) : (repl s le).size ≤ 24 := by
  unfold repl
  split
  · omega
  · rcases mark_cases s with q | ⟨i, q, hi⟩
    · omega
    · rw [q]
      simp only [ByteArray.size_append, ByteArray.size_extract, Int.toNat_natCast]
      omega
theorem offR_mem {d : Dt} {x : Er} {t : Int} {r : Rl} (h : offR d x t = some r) : ∃ s ∈ d.ss, r ∈ s.rs := by
  unfold offR at h
  split at h
  · cases h
  · cases hs : d.ss[x.set.toNat]? with
    | none => rw [hs] at h; cases h
    | some s => rw [hs] at h; exact ⟨s, List.mem_of_getElem? hs, offRl_mem h⟩
theorem off_bd {d : Dt} (hr : RightE d) {x : Er} (hx : 0 ≤ x.save ∧ x.save ≤ 7200) (t : Int) : (0 ≤ offSv d x t ∧ offSv d x t ≤ 7200) ∧ (offLe d x t).size ≤ 12 := by
  cases h : offR d x t with
  | none =>
    rw [(off_none h).1, (off_none h).2]
    exact ⟨hx, by decide⟩
  | some r =>
    obtain ⟨s, hs, hm⟩ := offR_mem h
    obtain ⟨hb, _, hl, _⟩ := ruleE_zero (hr.rules s hs r hm)
    obtain ⟨_, _, _, _, _, hv1, hv2⟩ := (ruleBasic_iff _ _ _ _ _).1 hb
    rw [(off_some h).1, (off_some h).2]
    unfold letOk at hl
    simp at hl
    exact ⟨⟨hv1, hv2⟩, hl.1⟩
structure OkAt (d : Dt) (nm : ByteArray) (t : Int) (z : Zn) (x : Er) : Prop where
  data : dataE d = 0
  zone : zoneEr d nm = 0
  le : 0 ≤ zoneK d nm
  lt : zoneK d nm < d.zs.length
  time : 0 ≤ t ∧ t < 1893456000
  hz : d.zs[(zoneK d nm).toNat]? = some z
  hx : ∃ i : Nat, z.es[i]? = some x ∧ i < z.es.length
  era : eraOf z t = x
  tot : oaTo d nm t = offTo d x t
  sv : oaSv d nm t = offSv d x t
  ab : oaAb d nm t = offAb d x t
  again : oaE d z.name t = 0 ∧ oaTo d z.name t = oaTo d nm t ∧ oaSv d z.name t = oaSv d nm t ∧ oaAb d z.name t = oaAb d nm t
  bd : (-50400 ≤ x.std ∧ x.std ≤ 50400) ∧ (0 ≤ offSv d x t ∧ offSv d x t ≤ 7200) ∧ (offAb d x t).size ≤ 24
theorem okAt_of {d : Dt} {nm : ByteArray} {t : Int} (hE : oaE d nm t = 0) : ∃ z x, OkAt d nm t z x := by
  have he : zoneEr d nm = 0 := by
    unfold oaE at hE
    split at hE
    · rename_i q; exact absurd hE q
    · rename_i q; exact Classical.not_not.1 q
  have ht : ¬ (t < 0 ∨ 1893456000 ≤ t) := by
    unfold oaE at hE
    rw [if_neg (by simp [he])] at hE
    intro q
    rw [if_pos q] at hE
    exact absurd hE (by decide)
  have hd0 : dataE d = 0 := by
    unfold zoneEr at he
    split at he
    · rename_i q; exact absurd he q
    · rename_i q; exact Classical.not_not.1 q
  have hle : ¬ leadN d nm < 0 := by
    intro q
    have := (zone_none (nm := nm) hd0 q).2
    rw [he] at this; cases this
  have hzk := (zone_is (nm := nm) hd0 hle).1
  have hlr : leadN d nm < d.zs.length := (leadT_range d (d.ls.length + 1) nm).2
  have hzq := List.getElem?_eq_getElem (l := d.zs) (i := (zoneK d nm).toNat) (by omega)
  obtain ⟨z, hzz⟩ : ∃ z, z = d.zs[(zoneK d nm).toNat]'(by omega) := ⟨_, rfl⟩
  rw [← hzz] at hzq
  have hr := rightE_of hd0
  have hzm := List.mem_of_getElem? hzq
  obtain ⟨x, hx, hxm, hk0, hk1, hxt⟩ := hr.era hzm (t := t) (by omega)
  have hx1 := eraOk_is (hr.eras z hzm _ x hx)
  obtain ⟨g1, g2, g3⟩ := at_good hE hzq
  rw [eraOf_is hx] at g1 g2 g3
  have hb := off_bd hr hx1.2.2.1 t
  have hln : leadN d z.name = ((zoneK d nm).toNat : Int) := hr.toRight.leadZone hzq
  have hz2 := zone_is (nm := z.name) hd0 (by omega)
  have hE2 : oaE d z.name t = 0 := by unfold oaE; rw [if_neg (by simp [hz2.2]), if_neg ht]
  obtain ⟨f1, f2, f3⟩ := at_good (nm := z.name) (t := t) hE2 (z := z) (by rw [hz2.1, hln, Int.toNat_natCast]; exact hzq)
  rw [eraOf_is hx] at f1 f2 f3
  have hf := hr.fmts z hzm x hxm
  have hf12 : x.fmt.size ≤ 12 := by
    unfold fmtOk at hf
    simp at hf
    omega
  exact ⟨z, x, { data := hd0, zone := he, le := by omega, lt := by omega, time := by omega, hz := hzq, hx := ⟨_, hx, (List.getElem?_eq_some_iff.1 hx).1⟩, era := eraOf_is hx, tot := g1, sv := g2, ab := g3, again := ⟨hE2, by rw [f1, g1], by rw [f2, g2], by rw [f3, g3]⟩, bd := ⟨hx1.1, hb.1, repl_size hf12 hb.2⟩ }⟩
end Gno
end
/-! Plain: in an era without a set the same holds from its beginning to its end. -/
section
set_option linter.unusedVariables false
set_option linter.unusedSimpArgs false
namespace Gno
open Go
/-- the eras' ends rise. -/
theorem RightE.rise {d : Dt} (h : RightE d) {z : Zn} (hz : z ∈ d.zs) : ∀ (j i : Nat) (x y : Er), z.es[i]? = some x → z.es[j]? = some y → i < j → x.til < y.til
  | 0, i, x, y, _, _, hij => by omega
  | j + 1, i, x, y, hx, hy, hij => by
    have hj : j < z.es.length := by have := (List.getElem?_eq_some_iff.1 hy).1; omega
    have hq := List.getElem?_eq_getElem hj
    have h1 := (eraOk_is (h.eras z hz _ y hy)).2.2.2.2
    have e : aheadOf z.es (j + 1) = z.es[j].til := by simp only [aheadOf]; rw [hq]
    rw [e] at h1
    by_cases hi : i = j
    · subst hi
      rw [hq] at hx
      injection hx with hx
      rw [← hx]; exact h1
    · have := RightE.rise h hz j i x _ hx hq (by omega)
      omega
theorem RightE.pos {d : Dt} (h : RightE d) {z : Zn} (hz : z ∈ d.zs) {i : Nat} {x : Er} (hx : z.es[i]? = some x) : 0 < x.til ∧ x.til ≤ 1893456000 ∧ 0 ≤ aheadOf z.es i ∧ aheadOf z.es i < x.til := by
  have hi := (List.getElem?_eq_some_iff.1 hx).1
  have h0 := List.getElem?_eq_getElem (l := z.es) (i := 0) (by omega)
  have a0 := (eraOk_is (h.eras z hz 0 _ h0)).2.2.2.2
  have a0 : 0 < (z.es[0]'(by omega)).til := a0
  have ax := (eraOk_is (h.eras z hz i x hx)).2.2.2.2
  have hah : 0 ≤ aheadOf z.es i := by
    cases i with
    | zero => exact Int.le_refl _
    | succ j =>
      have hq := List.getElem?_eq_getElem (l := z.es) (i := j) (by omega)
      have e : aheadOf z.es (j + 1) = (z.es[j]'(by omega)).til := by simp only [aheadOf]; rw [hq]
      rw [e]
      by_cases hj : j = 0
      · subst hj; omega
      · have := h.rise hz j 0 _ _ h0 hq (by omega)
        omega
  obtain ⟨y, hy, hye⟩ := ahead_last (es := z.es) (by omega)
  have he := h.ends z hz
  rw [hye] at he
  have hle : x.til ≤ y.til := by
    by_cases hl : i = z.es.length - 1
    · subst hl
      rw [hy] at hx
      injection hx with hx
      rw [hx]; exact Int.le_refl _
    · have := h.rise hz (z.es.length - 1) i x y hx hy (by omega)
      omega
  exact ⟨by omega, by omega, hah, ax⟩
/-- which era holds at a time within it. -/
theorem RightE.within {d : Dt} (h : RightE d) {z : Zn} (hz : z ∈ d.zs) {i : Nat} {x : Er} (hx : z.es[i]? = some x) {t : Int} (h1 : aheadOf z.es i ≤ t) (h2 : t < x.til) : eraOf z t = x := by
  have hk : eraK z.es t = i := by
    have := fst_at (p := til t) z.es 0 i (fun j y hj hy => by
      unfold til
      rw [decide_eq_false_iff_not]
      cases i with
      | zero => omega
      | succ m =>
        have hm : m < z.es.length := by have := (List.getElem?_eq_some_iff.1 hx).1; omega
        have hq := List.getElem?_eq_getElem hm
        have e : aheadOf z.es (m + 1) = z.es[m].til := by simp only [aheadOf]; rw [hq]
        rw [e] at h1
        by_cases hjm : j = m
        · subst hjm
          rw [hq] at hy
          injection hy with hy
          rw [← hy]; omega
        · have := h.rise hz m j y _ hy hq (by omega)
          omega) ⟨x, hx, by unfold til; simpa using h2⟩
    unfold eraK
    rw [this]; simp
  exact eraOf_is (by rw [hk]; simpa using hx)
/-- what holds there: the era's own. -/
theorem bare_at {d : Dt} (hd : dataE d = 0) {k : Nat} {z : Zn} (hz : d.zs[k]? = some z) {i : Nat} {x : Er} (hx : z.es[i]? = some x) (hs : x.set < 0) {t : Int} (h1 : aheadOf z.es i ≤ t) (h2 : t < x.til) :
    oaE d z.name t = 0 ∧ oaTo d z.name t = x.std + x.save ∧ oaSv d z.name t = x.save ∧ oaAb d z.name t = repl x.fmt ⟨#[]⟩ := by
  have hr := rightE_of hd
  have hzm := List.mem_of_getElem? hz
  have hp := hr.pos hzm hx
  have hln : leadN d z.name = k := hr.toRight.leadZone hz
  have hz2 := zone_is (nm := z.name) hd (by omega)
  have hE : oaE d z.name t = 0 := by unfold oaE; rw [if_neg (by simp [hz2.2]), if_neg (by omega)]
  obtain ⟨f1, f2, f3⟩ := at_good (nm := z.name) (t := t) hE (z := z) (by rw [hz2.1, hln, Int.toNat_natCast]; exact hz)
  rw [hr.within hzm hx h1 h2] at f1 f2 f3
  obtain ⟨q1, q2⟩ := off_none (offR_none (d := d) (t := t) hs)
  refine ⟨hE, ?_, by rw [f2, q1], ?_⟩
  · rw [f1]; unfold offTo; rw [q1]
  · rw [f3]; unfold offAb; rw [q2]
/-- a zone of right data has few eras. -/
theorem eras_few {d : Dt} (h : dataE d = 0) {z : Zn} (hz : z ∈ d.zs) : z.n ≤ 4 := by
  have h0 : manyD d = false := (right_of h).many
  have h1 : dE1 d = 0 := by unfold dataE at h; rwa [if_neg (by rw [h0]; simp)] at h
  have h2 : dE2 d = 0 := by
    unfold dE1 at h1; split at h1
    · exact absurd h1 (by decide)
    · exact h1
  have h3 : anyI (fun _ => manyEras) d.zs = false := by
    cases e : anyI (fun _ => manyEras) d.zs
    · rfl
    · unfold dE2 at h2; rw [if_pos e] at h2; exact absurd h2 (by decide)
  rw [anyI_any, List.any_eq_false] at h3
  have := h3 z hz
  unfold manyEras at this
  simp at this
  omega
end Gno
end
/-! Plain: what holds, as the reference says it. -/
section
set_option linter.unusedVariables false
set_option linter.unusedSimpArgs false
namespace Gno
open Go
/-- the letter of the first rule that saves nothing. -/
def leL : List Rl → ByteArray
  | [] => ⟨#[]⟩
  | r :: t => if noSave r = true then r.le else leL t
theorem leL_at {rs : List Rl} {i : Nat} {r : Rl} (h : rs[i]? = some r) : (noSave r = true → leL (rs.drop i) = r.le) ∧ (noSave r = false → leL (rs.drop i) = leL (rs.drop (i + 1))) := by
  have hi := (List.getElem?_eq_some_iff.1 h).1
  have e : rs.drop i = r :: rs.drop (i + 1) := by
    rw [List.drop_eq_getElem_cons hi]
    rw [List.getElem?_eq_getElem hi] at h
    injection h with h
    rw [h]
  rw [e]
  exact ⟨fun q => by unfold leL; rw [if_pos q], fun q => by rw [show leL (r :: rs.drop (i + 1)) = if noSave r = true then r.le else leL (rs.drop (i + 1)) from rfl, if_neg (by simp [q])]⟩
theorem leL_end {rs : List Rl} {i : Nat} (h : i = rs.length) : leL (rs.drop i) = ⟨#[]⟩ := by rw [h, List.drop_length]; rfl
theorem leL_fst : ∀ (l : List Rl) (k : Int), 0 ≤ k → (fst noSave l k < 0 ∧ leL l = ⟨#[]⟩) ∨ (0 ≤ fst noSave l k ∧ ∃ r, l[(fst noSave l k - k).toNat]? = some r ∧ noSave r = true ∧ leL l = r.le)
  | [], k, hk => .inl ⟨by simp [fst], rfl⟩
  | a :: t, k, hk => by
    by_cases ha : noSave a = true
    · have e1 : fst noSave (a :: t) k = k := by show (if noSave a = true then k else fst noSave t (k + 1)) = k; rw [if_pos ha]
      rw [e1]
      exact .inr ⟨hk, a, by simp, ha, by unfold leL; rw [if_pos ha]⟩
    · have e1 : fst noSave (a :: t) k = fst noSave t (k + 1) := by show (if noSave a = true then k else fst noSave t (k + 1)) = _; rw [if_neg ha]
      have e2 : leL (a :: t) = leL t := by show (if noSave a = true then a.le else leL t) = _; rw [if_neg ha]
      rw [e1, e2]
      rcases leL_fst t (k + 1) (by omega) with h | ⟨h, r, h1, h2, h3⟩
      · exact .inl h
      · have hr : k + 1 ≤ fst noSave t (k + 1) := by rcases fst_range noSave t (k + 1) (by omega) with e | e <;> omega
        exact .inr ⟨h, r, by rw [show (fst noSave t (k + 1) - k).toNat = (fst noSave t (k + 1) - (k + 1)).toNat + 1 by omega, List.getElem?_cons_succ]; exact h1, h2, h3⟩
/-- a rule has begun: it holds. -/
theorem off_begun {d : Dt} {x : Er} {t : Int} {s : St} (h : ¬ x.set < 0) (hs : d.ss[x.set.toNat]? = some s) (hl : lastB (latest s.rs x.std t) = true) :
    0 ≤ lastR (latest s.rs x.std t) ∧ lastR (latest s.rs x.std t) < s.rs.length ∧ ∃ r, s.rs[(lastR (latest s.rs x.std t)).toNat]? = some r ∧ offSv d x t = r.sv ∧ offLe d x t = r.le := by
  have h0 : 0 ≤ (latest s.rs x.std t).1 := by unfold lastB at hl; simpa using hl
  have hkk : offK s.rs x.std t = (latest s.rs x.std t).1 := by unfold offK; rw [if_pos h0]
  have hlr : lastR (latest s.rs x.std t) = (latest s.rs x.std t).1 := by unfold lastR; rw [if_pos h0]
  have hR := offK_range s.rs x.std t
  rw [hkk] at hR
  obtain ⟨r, h1, h2⟩ := offRl_is (rs := s.rs) (std := x.std) (t := t) (by rw [hkk]; exact h0)
  rw [hkk] at h1
  rw [hlr]
  have := off_some (d := d) (x := x) (t := t) (r := r) (by rw [offR_set h hs]; exact h2)
  exact ⟨h0, hR.2, r, h1, this.1, this.2⟩
/-- none has begun: the first that saves nothing. -/
theorem off_none_begun {d : Dt} {x : Er} {t : Int} {s : St} (h : ¬ x.set < 0) (hs : d.ss[x.set.toNat]? = some s) (hl : lastB (latest s.rs x.std t) = false) (hx : x.save = 0) :
    offSv d x t = x.save ∧ offLe d x t = leL s.rs := by
  have h0 : ¬ 0 ≤ (latest s.rs x.std t).1 := by unfold lastB at hl; simpa using hl
  have hkk : offK s.rs x.std t = fst noSave s.rs 0 := by unfold offK; rw [if_neg h0]
  rcases leL_fst s.rs 0 (by omega) with ⟨q1, q2⟩ | ⟨q1, r, q2, q3, q4⟩
  · have := off_none (d := d) (x := x) (t := t) (by rw [offR_set h hs]; exact offRl_no (by rw [hkk]; exact q1))
    rw [q2]; exact this
  · obtain ⟨r', h1, h2⟩ := offRl_is (rs := s.rs) (std := x.std) (t := t) (by rw [hkk]; exact q1)
    rw [hkk] at h1
    rw [show fst noSave s.rs 0 - 0 = fst noSave s.rs 0 by omega, h1] at q2
    injection q2 with q2
    subst q2
    have := off_some (d := d) (x := x) (t := t) (r := r') (by rw [offR_set h hs]; exact h2)
    unfold noSave at q3
    have q3 : r'.sv = 0 := by simpa using q3
    rw [this.1, this.2, q4, hx, q3]; exact ⟨rfl, rfl⟩
end Gno
end
/-! What must be in any case of what holds. -/
section
set_option linter.unusedVariables false
set_option linter.unusedSimpArgs false
namespace Go.Proofs.YtlngalmdidaahaaGreatDoor
open Go.RowKit Gno
theorem eu_at (W : World) (nm : ByteArray) (t : Int) (hM : MaxAt (euW W) (euW W).heap.size) {a b : Int} {s : ByteArray} (h : oaE (euD W.heap.size (-1) sOld) nm t = 0 ∧ oaTo (euD W.heap.size (-1) sOld) nm t = a ∧ oaSv (euD W.heap.size (-1) sOld) nm t = b ∧ oaAb (euD W.heap.size (-1) sOld) nm t = s) :
    Calls Tryz.prog 10 #[.agg #[.slice (some ⟨W.heap.size + 2, 0, none⟩) 1 1, .slice (some ⟨W.heap.size + 5, 0, none⟩) 2 2, .slice (some ⟨W.heap.size + 6, 0, none⟩) 2 2], .string nm, .int .i64 t] (euW W) fun e w' => e = .returned (.tuple #[.agg #[.int .i64 a, .int .i64 b, .string s], .int .i64 0]) ∧ Below (euW W).heap.size (euW W) w' := by
  have := at_any (euD W.heap.size (-1) sOld) nm t (euW W) (eu_data (euW_in W) (by rw [euW_size]; omega) old_le) hM
  rw [h.1, h.2.1, h.2.2.1, h.2.2.2] at this
  exact this
set_option maxRecDepth 100000 in
set_option maxHeartbeats 4000000 in
theorem offBegun_any (w : World) (hM : MaxAt w w.heap.size) :
    Calls Tryz.prog 12 #[] w fun e w' => e = .returned (.bool true) ∧ Below w.heap.size w w' := by
  have SP := Lib.hid eu_mk
  have NX : Hid (∀ {w1 : World}, Below w.heap.size w w1 → Below w.heap.size w (euW w1)) := Lib.hid (fun h => euW_next h)
  have MX : Hid (∀ {w1 : World}, Below w.heap.size w w1 → MaxAt w1 w1.heap.size) := Lib.hid (fun h => hM.next h)
  have T0 : Hid (∀ W, MaxAt (euW W) (euW W).heap.size → Calls Tryz.prog 10 #[.agg #[.slice (some ⟨W.heap.size + 2, 0, none⟩) 1 1, .slice (some ⟨W.heap.size + 5, 0, none⟩) 2 2, .slice (some ⟨W.heap.size + 6, 0, none⟩) 2 2], .string ⟨#[84, 111, 119, 110]⟩, .int .i64 1585443600] (euW W) fun e w' => e = .returned (.tuple #[.agg #[.int .i64 7200, .int .i64 3600, .string ⟨#[67, 69, 68, 84]⟩], .int .i64 0]) ∧ Below (euW W).heap.size (euW W) w') := Lib.hid (fun W h => eu_at W sTown 1585443600 h (eu_a _))
  have T1 : Hid (∀ W, MaxAt (euW W) (euW W).heap.size → Calls Tryz.prog 10 #[.agg #[.slice (some ⟨W.heap.size + 2, 0, none⟩) 1 1, .slice (some ⟨W.heap.size + 5, 0, none⟩) 2 2, .slice (some ⟨W.heap.size + 6, 0, none⟩) 2 2], .string ⟨#[84]⟩, .int .i64 1585443599] (euW W) fun e w' => e = .returned (.tuple #[.agg #[.int .i64 3600, .int .i64 0, .string ⟨#[67, 69, 83, 84]⟩], .int .i64 0]) ∧ Below (euW W).heap.size (euW W) w') := Lib.hid (fun W h => eu_at W sTt 1585443599 h (eu_b _))
  have T2 : Hid (∀ W, MaxAt (euW W) (euW W).heap.size → Calls Tryz.prog 10 #[.agg #[.slice (some ⟨W.heap.size + 2, 0, none⟩) 1 1, .slice (some ⟨W.heap.size + 5, 0, none⟩) 2 2, .slice (some ⟨W.heap.size + 6, 0, none⟩) 2 2], .string ⟨#[69, 47, 79, 108, 100, 95, 84, 111, 119, 110]⟩, .int .i64 7] (euW W) fun e w' => e = .returned (.tuple #[.agg #[.int .i64 1800, .int .i64 0, .string ⟨#[76, 77, 84]⟩], .int .i64 0]) ∧ Below (euW W).heap.size (euW W) w') := Lib.hid (fun W h => eu_at W sOld 7 h (eu_c _))
  have T3 : Hid (∀ W, MaxAt (euW W) (euW W).heap.size → Calls Tryz.prog 10 #[.agg #[.slice (some ⟨W.heap.size + 2, 0, none⟩) 1 1, .slice (some ⟨W.heap.size + 5, 0, none⟩) 2 2, .slice (some ⟨W.heap.size + 6, 0, none⟩) 2 2], .string ⟨#[65, 47, 87, 101, 115, 116]⟩, .int .i64 7] (euW W) fun e w' => e = .returned (.tuple #[.agg #[.int .i64 (-14400), .int .i64 3600, .string ⟨#[88, 84]⟩], .int .i64 0]) ∧ Below (euW W).heap.size (euW W) w') := Lib.hid (fun W h => eu_at W sAW 7 h (eu_d _))
  clear hM
  have h0 := Below.refl w.heap.size w
  go_enter Tryz.func12, Tryz.ntmps12
  go_wp2_with fail
  refine (SP.out _).mono ?_
  rintro e w' ⟨rfl, rfl⟩
  go_wp2_with fail
  refine (T0.out _ (MX.out (NX.out h0))).mono ?_
  rintro e u1 ⟨rfl, hb⟩
  have hu : Below w.heap.size w u1 := (NX.out h0).trans (hb.mono (NX.out h0).size)
  have HL1 : Hid (Below w.heap.size w (u1.alloc (.cells #[.int .i64 7200, .int .i64 3600, .string ⟨#[67, 69, 68, 84]⟩] 28))) := Lib.hid (((euW_below w).trans (hb.mono (euW_below w).size)).alloc (by have := (euW_below w).size; have := hb.size; omega) _)
  have HB : Hid (Below w.heap.size w (u1.alloc (.cells #[.int .i64 7200, .int .i64 3600, .string ⟨#[67, 69, 68, 84]⟩] 28))) := Lib.hid (hu.alloc hu.size _)
  have HO1 : Hid ((u1.alloc (.cells #[.int .i64 7200, .int .i64 3600, .string ⟨#[67, 69, 68, 84]⟩] 28)).heap[u1.heap.size]? = some (.cells #[.int .i64 7200, .int .i64 3600, .string ⟨#[67, 69, 68, 84]⟩] 28)) := Lib.hid (World.alloc_heap_new _ _)
  have HZ1 : Hid ((u1.alloc (.cells #[.int .i64 7200, .int .i64 3600, .string ⟨#[67, 69, 68, 84]⟩] 28)).heap.size = u1.heap.size + 1) := Lib.hid (World.size_alloc _ _)
  clear hb hu h0
  go_wp2_with fail
  obtain ⟨v1, hv⟩ : ∃ v : World, v = u1.alloc (.cells #[.int .i64 7200, .int .i64 3600, .string ⟨#[67, 69, 68, 84]⟩] 28) := ⟨_, rfl⟩
  rw [← hv] at HB HL1 HO1 HZ1
  rw [← hv]
  clear hv
  have h1 := HB.out
  clear HB
  go_wp2_with fail
  refine (SP.out _).mono ?_
  rintro e w' ⟨rfl, rfl⟩
  go_wp2_with fail
  refine (T1.out _ (MX.out (NX.out h1))).mono ?_
  rintro e u2 ⟨rfl, hb⟩
  have hu : Below w.heap.size w u2 := (NX.out h1).trans (hb.mono (NX.out h1).size)
  have HL2 : Hid (Below v1.heap.size v1 (u2.alloc (.cells #[.int .i64 3600, .int .i64 0, .string ⟨#[67, 69, 83, 84]⟩] 28))) := Lib.hid (((euW_below v1).trans (hb.mono (euW_below v1).size)).alloc (by have := (euW_below v1).size; have := hb.size; omega) _)
  have HB : Hid (Below w.heap.size w (u2.alloc (.cells #[.int .i64 3600, .int .i64 0, .string ⟨#[67, 69, 83, 84]⟩] 28))) := Lib.hid (hu.alloc hu.size _)
  have HO2 : Hid ((u2.alloc (.cells #[.int .i64 3600, .int .i64 0, .string ⟨#[67, 69, 83, 84]⟩] 28)).heap[u2.heap.size]? = some (.cells #[.int .i64 3600, .int .i64 0, .string ⟨#[67, 69, 83, 84]⟩] 28)) := Lib.hid (World.alloc_heap_new _ _)
  have HZ2 : Hid ((u2.alloc (.cells #[.int .i64 3600, .int .i64 0, .string ⟨#[67, 69, 83, 84]⟩] 28)).heap.size = u2.heap.size + 1) := Lib.hid (World.size_alloc _ _)
  clear hb hu h1
  go_wp2_with fail
  obtain ⟨v2, hv⟩ : ∃ v : World, v = u2.alloc (.cells #[.int .i64 3600, .int .i64 0, .string ⟨#[67, 69, 83, 84]⟩] 28) := ⟨_, rfl⟩
  rw [← hv] at HB HL2 HO2 HZ2
  rw [← hv]
  clear hv
  have h2 := HB.out
  clear HB
  go_wp2_with fail
  refine (SP.out _).mono ?_
  rintro e w' ⟨rfl, rfl⟩
  go_wp2_with fail
  refine (T2.out _ (MX.out (NX.out h2))).mono ?_
  rintro e u3 ⟨rfl, hb⟩
  have hu : Below w.heap.size w u3 := (NX.out h2).trans (hb.mono (NX.out h2).size)
  have HL3 : Hid (Below v2.heap.size v2 (u3.alloc (.cells #[.int .i64 1800, .int .i64 0, .string ⟨#[76, 77, 84]⟩] 28))) := Lib.hid (((euW_below v2).trans (hb.mono (euW_below v2).size)).alloc (by have := (euW_below v2).size; have := hb.size; omega) _)
  have HB : Hid (Below w.heap.size w (u3.alloc (.cells #[.int .i64 1800, .int .i64 0, .string ⟨#[76, 77, 84]⟩] 28))) := Lib.hid (hu.alloc hu.size _)
  have HO3 : Hid ((u3.alloc (.cells #[.int .i64 1800, .int .i64 0, .string ⟨#[76, 77, 84]⟩] 28)).heap[u3.heap.size]? = some (.cells #[.int .i64 1800, .int .i64 0, .string ⟨#[76, 77, 84]⟩] 28)) := Lib.hid (World.alloc_heap_new _ _)
  have HZ3 : Hid ((u3.alloc (.cells #[.int .i64 1800, .int .i64 0, .string ⟨#[76, 77, 84]⟩] 28)).heap.size = u3.heap.size + 1) := Lib.hid (World.size_alloc _ _)
  clear hb hu h2
  go_wp2_with fail
  obtain ⟨v3, hv⟩ : ∃ v : World, v = u3.alloc (.cells #[.int .i64 1800, .int .i64 0, .string ⟨#[76, 77, 84]⟩] 28) := ⟨_, rfl⟩
  rw [← hv] at HB HL3 HO3 HZ3
  rw [← hv]
  clear hv
  have h3 := HB.out
  clear HB
  go_wp2_with fail
  refine (SP.out _).mono ?_
  rintro e w' ⟨rfl, rfl⟩
  go_wp2_with fail
  refine (T3.out _ (MX.out (NX.out h3))).mono ?_
  rintro e u4 ⟨rfl, hb⟩
  have hu : Below w.heap.size w u4 := (NX.out h3).trans (hb.mono (NX.out h3).size)
  have HL4 : Hid (Below v3.heap.size v3 (u4.alloc (.cells #[.int .i64 (-14400), .int .i64 3600, .string ⟨#[88, 84]⟩] 28))) := Lib.hid (((euW_below v3).trans (hb.mono (euW_below v3).size)).alloc (by have := (euW_below v3).size; have := hb.size; omega) _)
  have HB : Hid (Below w.heap.size w (u4.alloc (.cells #[.int .i64 (-14400), .int .i64 3600, .string ⟨#[88, 84]⟩] 28))) := Lib.hid (hu.alloc hu.size _)
  have HO4 : Hid ((u4.alloc (.cells #[.int .i64 (-14400), .int .i64 3600, .string ⟨#[88, 84]⟩] 28)).heap[u4.heap.size]? = some (.cells #[.int .i64 (-14400), .int .i64 3600, .string ⟨#[88, 84]⟩] 28)) := Lib.hid (World.alloc_heap_new _ _)
  have HZ4 : Hid ((u4.alloc (.cells #[.int .i64 (-14400), .int .i64 3600, .string ⟨#[88, 84]⟩] 28)).heap.size = u4.heap.size + 1) := Lib.hid (World.size_alloc _ _)
  clear hb hu h3
  have z1 := HZ1.out
  have z2 := HZ2.out
  have z3 := HZ3.out
  have y2 := HL2.out.size
  have y3 := HL3.out.size
  have k3 : (u4.alloc (.cells #[.int .i64 (-14400), .int .i64 3600, .string ⟨#[88, 84]⟩] 28)).heap[u3.heap.size]? = some (.cells #[.int .i64 1800, .int .i64 0, .string ⟨#[76, 77, 84]⟩] 28) := (HL4.out.block _ (by omega)).trans HO3.out
  have k2 : (u4.alloc (.cells #[.int .i64 (-14400), .int .i64 3600, .string ⟨#[88, 84]⟩] 28)).heap[u2.heap.size]? = some (.cells #[.int .i64 3600, .int .i64 0, .string ⟨#[67, 69, 83, 84]⟩] 28) := (HL4.out.block _ (by omega)).trans ((HL3.out.block _ (by omega)).trans HO2.out)
  have k1 : (u4.alloc (.cells #[.int .i64 (-14400), .int .i64 3600, .string ⟨#[88, 84]⟩] 28)).heap[u1.heap.size]? = some (.cells #[.int .i64 7200, .int .i64 3600, .string ⟨#[67, 69, 68, 84]⟩] 28) := (HL4.out.block _ (by omega)).trans ((HL3.out.block _ (by omega)).trans ((HL2.out.block _ (by omega)).trans HO1.out))
  have c00 : (u4.alloc (.cells #[.int .i64 (-14400), .int .i64 3600, .string ⟨#[88, 84]⟩] 28)).cell? ⟨u1.heap.size, 0, none⟩ = some (.int .i64 7200) := cell_of k1 rfl
  have c01 : (u4.alloc (.cells #[.int .i64 (-14400), .int .i64 3600, .string ⟨#[88, 84]⟩] 28)).cell? ⟨u1.heap.size, 1, none⟩ = some (.int .i64 3600) := cell_of k1 rfl
  have c02 : (u4.alloc (.cells #[.int .i64 (-14400), .int .i64 3600, .string ⟨#[88, 84]⟩] 28)).cell? ⟨u1.heap.size, 2, none⟩ = some (.string ⟨#[67, 69, 68, 84]⟩) := cell_of k1 rfl
  have c10 : (u4.alloc (.cells #[.int .i64 (-14400), .int .i64 3600, .string ⟨#[88, 84]⟩] 28)).cell? ⟨u2.heap.size, 0, none⟩ = some (.int .i64 3600) := cell_of k2 rfl
  have c11 : (u4.alloc (.cells #[.int .i64 (-14400), .int .i64 3600, .string ⟨#[88, 84]⟩] 28)).cell? ⟨u2.heap.size, 1, none⟩ = some (.int .i64 0) := cell_of k2 rfl
  have c12 : (u4.alloc (.cells #[.int .i64 (-14400), .int .i64 3600, .string ⟨#[88, 84]⟩] 28)).cell? ⟨u2.heap.size, 2, none⟩ = some (.string ⟨#[67, 69, 83, 84]⟩) := cell_of k2 rfl
  have c20 : (u4.alloc (.cells #[.int .i64 (-14400), .int .i64 3600, .string ⟨#[88, 84]⟩] 28)).cell? ⟨u3.heap.size, 0, none⟩ = some (.int .i64 1800) := cell_of k3 rfl
  have c21 : (u4.alloc (.cells #[.int .i64 (-14400), .int .i64 3600, .string ⟨#[88, 84]⟩] 28)).cell? ⟨u3.heap.size, 1, none⟩ = some (.int .i64 0) := cell_of k3 rfl
  have c22 : (u4.alloc (.cells #[.int .i64 (-14400), .int .i64 3600, .string ⟨#[88, 84]⟩] 28)).cell? ⟨u3.heap.size, 2, none⟩ = some (.string ⟨#[76, 77, 84]⟩) := cell_of k3 rfl
  clear z1 z2 z3 y2 y3 k1 k2 k3
  go_wp2
  go_ret
  exact ⟨rfl, HB.out⟩
end Go.Proofs.YtlngalmdidaahaaGreatDoor
end
