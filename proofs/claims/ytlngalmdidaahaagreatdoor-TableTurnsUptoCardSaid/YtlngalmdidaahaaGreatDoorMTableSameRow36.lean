/- Parts of a proof, laid together. -/
import Derived.Test.YtlngalmdidaahaaGreatDoorMTableSameRow35
import Derived.Test.YtlngalmdidaahaaGreatDoorMTableSameRow13
import Derived.Test.YtlngalmdidaahaaGreatDoorMTableSameRow22
import Derived.Test.YtlngalmdidaahaaGreatDoorMTableSameRow33
import Derived.Test.YtlngalmdidaahaaGreatDoorMTableSameRow32
set_option linter.unusedSimpArgs false
set_option linter.unusedVariables false
/-! Plain: in an era without a set the same holds from its beginning to its end. -/
section
set_option linter.unusedVariables false
namespace Gno
open Go
/-- the eras' ends rise. -/
theorem RightE.rise {d : Dt} (h : RightE d) {z : Zn} (hz : z ∈ d.zs) : ∀ (j i : Nat) (x y : Er), z.es[i]? = some x → z.es[j]? = some y → i < j → x.til < y.til
  | 0, i, x, y, _, _, hij => by omega
  | j + 1, i, x, y, hx, hy, hij => by
    have hj : j < z.es.length := by have := (List.getElem?_eq_some_iff.1 hy).1; omega
    have hq := List.getElem?_eq_getElem hj
    have h1 := (eraOk_is (h.eras z hz _ y hy)).2.2.2.2
    have e : aheadOf z.es (j + 1) = z.es[j].til := by simp only [aheadOf]; rw [hq]
    rw [e] at h1
    by_cases hi : i = j
    · subst hi
      rw [hq] at hx
      injection hx with hx
      rw [← hx]; exact h1
    · have := RightE.rise h hz j i x _ hx hq (by omega)
      omega
theorem RightE.pos {d : Dt} (h : RightE d) {z : Zn} (hz : z ∈ d.zs) {i : Nat} {x : Er} (hx : z.es[i]? = some x) : 0 < x.til ∧ x.til ≤ 1893456000 ∧ 0 ≤ aheadOf z.es i ∧ aheadOf z.es i < x.til := by
  have hi := (List.getElem?_eq_some_iff.1 hx).1
  have h0 := List.getElem?_eq_getElem (l := z.es) (i := 0) (by omega)
  have a0 := (eraOk_is (h.eras z hz 0 _ h0)).2.2.2.2
  have a0 : 0 < (z.es[0]'(by omega)).til := a0
  have ax := (eraOk_is (h.eras z hz i x hx)).2.2.2.2
  have hah : 0 ≤ aheadOf z.es i := by
    cases i with
    | zero => exact Int.le_refl _
    | succ j =>
      have hq := List.getElem?_eq_getElem (l := z.es) (i := j) (by omega)
      have e : aheadOf z.es (j + 1) = (z.es[j]'(by omega)).til := by simp only [aheadOf]; rw [hq]
      rw [e]
      by_cases hj : j = 0
      · subst hj; omega
      · have := h.rise hz j 0 _ _ h0 hq (by omega)
        omega
  obtain ⟨y, hy, hye⟩ := ahead_last (es := z.es) (by omega)
  have he := h.ends z hz
  rw [hye] at he
  have hle : x.til ≤ y.til := by
    by_cases hl : i = z.es.length - 1
    · subst hl
      rw [hy] at hx
      injection hx with hx
      rw [hx]; exact Int.le_refl _
    · have := h.rise hz (z.es.length - 1) i x y hx hy (by omega)
      omega
  exact ⟨by omega, by omega, hah, ax⟩
/-- which era holds at a time within it. -/
theorem RightE.within {d : Dt} (h : RightE d) {z : Zn} (hz : z ∈ d.zs) {i : Nat} {x : Er} (hx : z.es[i]? = some x) {t : Int} (h1 : aheadOf z.es i ≤ t) (h2 : t < x.til) : eraOf z t = x := by
  have hk : eraK z.es t = i := by
    have := fst_at (p := til t) z.es 0 i (fun j y hj hy => by
      unfold til
      rw [decide_eq_false_iff_not]
      cases i with
      | zero => omega
      | succ m =>
        have hm : m < z.es.length := by have := (List.getElem?_eq_some_iff.1 hx).1; omega
        have hq := List.getElem?_eq_getElem hm
        have e : aheadOf z.es (m + 1) = z.es[m].til := by simp only [aheadOf]; rw [hq]
        rw [e] at h1
        by_cases hjm : j = m
        · subst hjm
          rw [hq] at hy
          injection hy with hy
          rw [← hy]; omega
        · have := h.rise hz m j y _ hy hq (by omega)
          omega) ⟨x, hx, by unfold til; simpa using h2⟩
    unfold eraK
    rw [this]; simp
  exact eraOf_is (by rw [hk]; simpa using hx)
/-- what holds there: the era's own. -/
theorem bare_at {d : Dt} (hd : dataE d = 0) {k : Nat} {z : Zn} (hz : d.zs[k]? = some z) {i : Nat} {x : Er} (hx : z.es[i]? = some x) (hs : x.set < 0) {t : Int} (h1 : aheadOf z.es i ≤ t) (h2 : t < x.til) :
    oaE d z.name t = 0 ∧ oaTo d z.name t = x.std + x.save ∧ oaSv d z.name t = x.save ∧ oaAb d z.name t = repl x.fmt ⟨#[]⟩ := by
  have hr := rightE_of hd
  have hzm := List.mem_of_getElem? hz
  have hp := hr.pos hzm hx
  have hln : leadN d z.name = k := hr.toRight.leadZone hz
  have hz2 := zone_is (nm := z.name) hd (by omega)
  have hE : oaE d z.name t = 0 := by unfold oaE; rw [if_neg (by simp [hz2.2]), if_neg (by omega)]
  obtain ⟨f1, f2, f3⟩ := at_good (nm := z.name) (t := t) hE (z := z) (by rw [hz2.1, hln, Int.toNat_natCast]; exact hz)
  rw [hr.within hzm hx h1 h2] at f1 f2 f3
  obtain ⟨q1, q2⟩ := off_none (offR_none (d := d) (t := t) hs)
  refine ⟨hE, ?_, by rw [f2, q1], ?_⟩
  · rw [f1]; unfold offTo; rw [q1]
  · rw [f3]; unfold offAb; rw [q2]
/-- a zone of right data has few eras. -/
theorem eras_few {d : Dt} (h : dataE d = 0) {z : Zn} (hz : z ∈ d.zs) : z.n ≤ 4 := by
  have h0 : manyD d = false := (right_of h).many
  have h1 : dE1 d = 0 := by unfold dataE at h; rwa [if_neg (by rw [h0]; simp)] at h
  have h2 : dE2 d = 0 := by
    unfold dE1 at h1; split at h1
    · exact absurd h1 (by decide)
    · exact h1
  have h3 : anyI (fun _ => manyEras) d.zs = false := by
    cases e : anyI (fun _ => manyEras) d.zs
    · rfl
    · unfold dE2 at h2; rw [if_pos e] at h2; exact absurd h2 (by decide)
  rw [anyI_any, List.any_eq_false] at h3
  have := h3 z hz
  unfold manyEras at this
  simp at this
  omega
end Gno
end
/-! Plain: what holds, as the reference says it. -/
section
set_option linter.unusedVariables false
namespace Gno
open Go
/-- the letter of the first rule that saves nothing. -/
def leL : List Rl → ByteArray
  | [] => ⟨#[]⟩
  | r :: t => if noSave r = true then r.le else leL t
theorem leL_at {rs : List Rl} {i : Nat} {r : Rl} (h : rs[i]? = some r) : (noSave r = true → leL (rs.drop i) = r.le) ∧ (noSave r = false → leL (rs.drop i) = leL (rs.drop (i + 1))) := by
  have hi := (List.getElem?_eq_some_iff.1 h).1
  have e : rs.drop i = r :: rs.drop (i + 1) := by
    rw [List.drop_eq_getElem_cons hi]
    rw [List.getElem?_eq_getElem hi] at h
    injection h with h
    rw [h]
  rw [e]
  exact ⟨fun q => by unfold leL; rw [if_pos q], fun q => by rw [show leL (r :: rs.drop (i + 1)) = if noSave r = true then r.le else leL (rs.drop (i + 1)) from rfl, if_neg (by simp [q])]⟩
theorem leL_end {rs : List Rl} {i : Nat} (h : i = rs.length) : leL (rs.drop i) = ⟨#[]⟩ := by rw [h, List.drop_length]; rfl
theorem leL_fst : ∀ (l : List Rl) (k : Int), 0 ≤ k → (fst noSave l k < 0 ∧ leL l = ⟨#[]⟩) ∨ (0 ≤ fst noSave l k ∧ ∃ r, l[(fst noSave l k - k).toNat]? = some r ∧ noSave r = true ∧ leL l = r.le)
  | [], k, hk => .inl ⟨by simp [fst], rfl⟩
  | a :: t, k, hk => by
    by_cases ha : noSave a = true
    · have e1 : fst noSave (a :: t) k = k := by show (if noSave a = true then k else fst noSave t (k + 1)) = k; rw [if_pos ha]
      rw [e1]
      exact .inr ⟨hk, a, by simp, ha, by unfold leL; rw [if_pos ha]⟩
    · have e1 : fst noSave (a :: t) k = fst noSave t (k + 1) := by show (if noSave a = true then k else fst noSave t (k + 1)) = _; rw [if_neg ha]
      have e2 : leL (a :: t) = leL t := by show (if noSave a = true then a.le else leL t) = _; rw [if_neg ha]
      rw [e1, e2]
      rcases leL_fst t (k + 1) (by omega) with h | ⟨h, r, h1, h2, h3⟩
      · exact .inl h
      · have hr : k + 1 ≤ fst noSave t (k + 1) := by rcases fst_range noSave t (k + 1) (by omega) with e | e <;> omega
        exact .inr ⟨h, r, by rw [show (fst noSave t (k + 1) - k).toNat = (fst noSave t (k + 1) - (k + 1)).toNat + 1 by omega, List.getElem?_cons_succ]; exact h1, h2, h3⟩
/-- a rule has begun: it holds. -/
theorem off_begun {d : Dt} {x : Er} {t : Int} {s : St} (h : ¬ x.set < 0) (hs : d.ss[x.set.toNat]? = some s) (hl : lastB (latest s.rs x.std t) = true) :
    0 ≤ lastR (latest s.rs x.std t) ∧ lastR (latest s.rs x.std t) < s.rs.length ∧ ∃ r, s.rs[(lastR (latest s.rs x.std t)).toNat]? = some r ∧ offSv d x t = r.sv ∧ offLe d x t = r.le := by
  have h0 : 0 ≤ (latest s.rs x.std t).1 := by unfold lastB at hl; simpa using hl
  have hkk : offK s.rs x.std t = (latest s.rs x.std t).1 := by unfold offK; rw [if_pos h0]
  have hlr : lastR (latest s.rs x.std t) = (latest s.rs x.std t).1 := by unfold lastR; rw [if_pos h0]
  have hR := offK_range s.rs x.std t
  rw [hkk] at hR
  obtain ⟨r, h1, h2⟩ := offRl_is (rs := s.rs) (std := x.std) (t := t) (by rw [hkk]; exact h0)
  rw [hkk] at h1
  rw [hlr]
  have := off_some (d := d) (x := x) (t := t) (r := r) (by rw [offR_set h hs]; exact h2)
  exact ⟨h0, hR.2, r, h1, this.1, this.2⟩
/-- none has begun: the first that saves nothing. -/
theorem off_none_begun {d : Dt} {x : Er} {t : Int} {s : St} (h : ¬ x.set < 0) (hs : d.ss[x.set.toNat]? = some s) (hl : lastB (latest s.rs x.std t) = false) (hx : x.save = 0) :
    offSv d x t = x.save ∧ offLe d x t = leL s.rs := by
  have h0 : ¬ 0 ≤ (latest s.rs x.std t).1 := by unfold lastB at hl; simpa using hl
  have hkk : offK s.rs x.std t = fst noSave s.rs 0 := by unfold offK; rw [if_neg h0]
  rcases leL_fst s.rs 0 (by omega) with ⟨q1, q2⟩ | ⟨q1, r, q2, q3, q4⟩
  · have := off_none (d := d) (x := x) (t := t) (by rw [offR_set h hs]; exact offRl_no (by rw [hkk]; exact q1))
    rw [q2]; exact this
  · obtain ⟨r', h1, h2⟩ := offRl_is (rs := s.rs) (std := x.std) (t := t) (by rw [hkk]; exact q1)
    rw [hkk] at h1
    rw [show fst noSave s.rs 0 - 0 = fst noSave s.rs 0 by omega, h1] at q2
    injection q2 with q2
    subst q2
    have := off_some (d := d) (x := x) (t := t) (r := r') (by rw [offR_set h hs]; exact h2)
    unfold noSave at q3
    have q3 : r'.sv = 0 := by simpa using q3
    rw [this.1, this.2, q4, hx, q3]; exact ⟨rfl, rfl⟩
end Gno
end
/-! The walk of the reference's holds. -/
section
set_option linter.unusedVariables false
namespace Go.Proofs.YtlngalmdidaahaaGreatDoor
open Go.RowKit Gno
theorem le12 {r : Rl} (hre : r.e = 0) : r.le.size ≤ 12 := by
  obtain ⟨_, _, hlet, _⟩ := ruleE_zero hre
  unfold letOk at hlet
  simp at hlet
  omega
set_option maxRecDepth 100000 in
set_option maxHeartbeats 4000000 in
theorem holdsRef_any (d : Dt) (zone t : Int) (z : Zn) (w : World) (hD : DataAt w w.heap.size d) (hM : MaxAt w w.heap.size) (hr : RightE d) (hz : d.zs[zone.toNat]? = some z) (hz0 : 0 ≤ zone) (ht : t < 1893456000) :
    Calls Tryz.prog 31 #[d.val, .int .i64 zone, .int .i64 t] w fun e w' => e = .returned (.agg #[.int .i64 (offTo d (eraOf z t) t), .int .i64 (offSv d (eraOf z t) t), .string (offAb d (eraOf z t) t)]) ∧ Below w.heap.size w w' := by
  obtain ⟨x, hx, hxm, hk0, hk1, hxt⟩ := hr.era (List.mem_of_getElem? hz) ht
  rw [eraOf_is hx]
  have hxo := eraOk_is (hr.eras z (List.mem_of_getElem? hz) _ x hx)
  have hfo := hr.fmts z (List.mem_of_getElem? hz) x hxm
  have hf12 : x.fmt.size ≤ 12 := by
    unfold fmtOk at hfo
    simp at hfo
    omega
  have hzl := (List.getElem?_eq_some_iff.1 hz).1
  have hzn := hD.2.1.1
  obtain ⟨b, o, q, hA, hbB, hq, hq1, hq2⟩ := zones_get hD.2.1 (i := zone.toNat) (by omega)
  rw [hz] at hq
  injection hq with hq
  subst hq
  obtain ⟨qn, A2, n2, cap2, es2⟩ := z
  replace hk0 : 0 ≤ eraK es2 t := hk0
  replace hk1 : eraK es2 t < es2.length := hk1
  have hE := (hq2 w (Below.refl _ _)).2
  have hEl : es2.length = n2 := hE.1
  have hkn : (eraK es2 t).toNat < n2 := hEl ▸ (Int.toNat_lt hk0).2 hk1
  obtain ⟨b2, o2, x', hA2, hb2, hx', hxf', hxc⟩ := eras_get hE (i := (eraK es2 t).toNat) hkn
  rw [show es2[(eraK es2 t).toNat]? = some x from hx] at hx'
  injection hx' with hx'
  subst hx'
  have hA2' : A2 = some ⟨b2, o2, none⟩ := hA2
  clear hA2
  subst hA2'
  have HN := Lib.hid (fun W hb => at_next (d := d) (w := w) (W := W) hD hM hb)
  have HC : Hid (∀ W, Below (w.heap.size + 2) ((w.alloc (.cells #[.slice d.sA d.sn d.sc, .slice d.zA d.zn d.zc, .slice d.lA d.ln d.lc] 26)).alloc (.cells #[.int .i64 0, .int .i64 0, .string ⟨#[]⟩] 28)) W → W.cell? ⟨w.heap.size, 0, none⟩ = some (.slice d.sA d.sn d.sc) ∧ W.cell? ⟨w.heap.size, 1, none⟩ = some (.slice (some ⟨b, o, none⟩) d.zn d.zc) ∧ W.cell? ⟨b, o + zone.toNat * 2 + 1, none⟩ = some (.slice (some ⟨b2, o2, none⟩) n2 cap2)) := Lib.hid (fun W h => by
    have h1 := HN.out W h
    exact ⟨h1.2.2.2.1.1, hA ▸ h1.2.2.2.1.2.1, (hq2 W h1.1).1.2⟩)
  have HX : Hid (∀ W, Below (w.heap.size + 2) ((w.alloc (.cells #[.slice d.sA d.sn d.sc, .slice d.zA d.zn d.zc, .slice d.lA d.ln d.lc] 26)).alloc (.cells #[.int .i64 0, .int .i64 0, .string ⟨#[]⟩] 28)) W → ErAt W b2 (o2 + (eraK es2 t).toNat * 5) x) := Lib.hid (fun W h => hxc W (HN.out W h).1)
  have HER : Hid (∀ j, j < n2 → ∃ y, es2[j]? = some y ∧ ∀ W, Below (w.heap.size + 2) ((w.alloc (.cells #[.slice d.sA d.sn d.sc, .slice d.zA d.zn d.zc, .slice d.lA d.ln d.lc] 26)).alloc (.cells #[.int .i64 0, .int .i64 0, .string ⟨#[]⟩] 28)) W → W.cell? ⟨b2, o2 + j * 5 + 4, none⟩ = some (.int .i64 y.til)) := Lib.hid (fun j hj => by
    obtain ⟨b3, o3, y, hA3, _, hy, _, hc⟩ := eras_get hE hj
    injection hA3 with hA3
    injection hA3 with e1 e2 _
    subst e1
    subst e2
    exact ⟨y, hy, fun W h => (hc W (HN.out W h).1).2.2.2.2⟩)
  have HDR := Lib.hid hr.rules
  have HSET : Hid (¬ x.set < 0 → ∃ b5 o5 s, d.sA = some ⟨b5, o5, none⟩ ∧ d.ss[x.set.toNat]? = some s ∧ x.set < d.sn ∧ ∀ W, Below (w.heap.size + 2) ((w.alloc (.cells #[.slice d.sA d.sn d.sc, .slice d.zA d.zn d.zc, .slice d.lA d.ln d.lc] 26)).alloc (.cells #[.int .i64 0, .int .i64 0, .string ⟨#[]⟩] 28)) W → W.cell? ⟨b5, o5 + x.set.toNat * 2 + 1, none⟩ = some (.slice s.A s.n s.cap) ∧ RulesAt W W.heap.size s.A s.n s.rs) := Lib.hid (fun hs => by
    have := hxo.2.1
    obtain ⟨b5, o5, s, e1, e2, e3, e4, e5⟩ := sets_get hD.1 (i := x.set.toNat) (by omega)
    exact ⟨b5, o5, s, e1, e3, this.2, fun W h => by
      have h1 := (HN.out W h).1
      exact ⟨(e5 W h1).1.2, ((e5 W h1).2).more (by have := h1.size; omega)⟩⟩)
  have MKC := Lib.hid (fun W => mark_any x.fmt W (by omega))
  have hn2 : n2 ≤ 9223372036854775807 := hE.2.1
  have HK : Hid (fst (til t) (es2.drop 0) ((0 : Nat) : Int) = eraK es2 t) := Lib.hid (by rw [List.drop_zero]; rfl)
  obtain ⟨KI, hK⟩ : ∃ v, v = eraK es2 t := ⟨_, rfl⟩
  obtain ⟨K, hKN⟩ : ∃ v : Nat, (v : Int) = KI := ⟨KI.toNat, by omega⟩
  rw [← hK] at hk0 hk1 HX HK
  subst hKN
  replace HX : Hid (∀ W, Below (w.heap.size + 2) ((w.alloc (.cells #[.slice d.sA d.sn d.sc, .slice d.zA d.zn d.zc, .slice d.lA d.ln d.lc] 26)).alloc (.cells #[.int .i64 0, .int .i64 0, .string ⟨#[]⟩] 28)) W → ErAt W b2 (o2 + K * 5) x) := by simpa using HX
  have HL := Lib.hid hEl
  have hzb : zone < (d.zn : Int) := by omega
  have hkb : K < n2 := by omega
  obtain ⟨⟨s1, s2⟩, ⟨s3, s4⟩, ⟨s5, s6⟩, s7, _⟩ := hxo
  have hxx : x.set < 0 ∨ x.save = 0 := s7
  have HXX := Lib.hid hxx
  have gx : decide (x.til ≤ t) = false := by simp; omega
  clear hxx s7 hD hM hr hz hx hxm hfo hzl hzn hA hbB hq1 hq2 hE hEl hb2 hxf' hxc ht hkn hK hk0 hk1 hxt s3
  unfold Dt.val
  have hbb : Below (w.heap.size + 2) ((w.alloc (.cells #[.slice d.sA d.sn d.sc, .slice d.zA d.zn d.zc, .slice d.lA d.ln d.lc] 26)).alloc (.cells #[.int .i64 0, .int .i64 0, .string ⟨#[]⟩] 28)) ((w.alloc (.cells #[.slice d.sA d.sn d.sc, .slice d.zA d.zn d.zc, .slice d.lA d.ln d.lc] 26)).alloc (.cells #[.int .i64 0, .int .i64 0, .string ⟨#[]⟩] 28)) := Below.refl _ _
  obtain ⟨c0, c1, c2⟩ := HC.out _ hbb
  go_enter Tryz.func31, Tryz.ntmps31
  go_wp2_with fail
  go_loopw [8] (fun b8 wr => ∃ j : Nat, j ≤ K ∧ b8 = .int .i64 j ∧ Hid (fst (til t) (es2.drop j) (j : Int) = K) ∧ Hid (Below (w.heap.size + 2) ((w.alloc (.cells #[.slice d.sA d.sn d.sc, .slice d.zA d.zn d.zc, .slice d.lA d.ln d.lc] 26)).alloc (.cells #[.int .i64 0, .int .i64 0, .string ⟨#[]⟩] 28)) wr)) (fun b8 _ => n2 - (intOf b8).toNat)
  case atStart => exact ⟨0, Nat.zero_le _, rfl, HK, Lib.hid hbb⟩
  case round =>
    clear c0 c1 c2 hbb
    obtain ⟨j, hj, rfl, hfj, hb⟩ := hrel
    have hjn : j < n2 := by omega
    obtain ⟨y, hy, hyc⟩ := HER.out j hjn
    have e0 := hyc _ hb.out
    have HD := Lib.hid (fst_drop (p := til t) hy)
    have HY := Lib.hid hy
    clear hyc hy
    by_cases hq : y.til ≤ t
    · have g1 : decide (y.til ≤ t) = true := by simpa using hq
      have HJ : Hid (fst (til t) (es2.drop (j + 1)) ((j + 1 : Nat) : Int) = K) := Lib.hid (by rw [← HD.out.2 (by unfold til; simp; omega)]; exact hfj.out)
      have hjk : j + 1 ≤ K := by
        rcases fst_range (til t) (es2.drop (j + 1)) ((j + 1 : Nat) : Int) (by omega) with e | e
        · rw [HJ.out] at e; omega
        · rw [HJ.out] at e; omega
      clear hfj hq
      go_wp2
      go_roundw
      case rel => exact ⟨j + 1, hjk, by go_num, HJ, hb⟩
      case measure => simp [intOf]; omega
    · have g1 : decide (y.til ≤ t) = false := by simpa using hq
      have hjK : j = K := by
        have := HD.out.1 (by unfold til; simp; omega)
        rw [hfj.out] at this
        omega
      subst hjK
      clear hq hfj HD HY HER HK g1
      obtain ⟨wo, hwo⟩ : ∃ wo : World, wo = wr := ⟨_, rfl⟩
      rw [← hwo] at hb e0
      rw [← hwo]
      clear hwo
      obtain ⟨x0, x1, x2, x3, x4⟩ := HX.out _ hb.out
      clear e0
      have HP : Hid (∀ W, Below (wo.alloc (.cells #[.int .i64 x.std, .int .i64 x.set, .int .i64 x.save, .string x.fmt, .int .i64 x.til] 46)).heap.size (wo.alloc (.cells #[.int .i64 x.std, .int .i64 x.set, .int .i64 x.save, .string x.fmt, .int .i64 x.til] 46)) W → Below (w.heap.size + 2) ((w.alloc (.cells #[.slice d.sA d.sn d.sc, .slice d.zA d.zn d.zc, .slice d.lA d.ln d.lc] 26)).alloc (.cells #[.int .i64 0, .int .i64 0, .string ⟨#[]⟩] 28)) W ∧ (W.cell? ⟨wo.heap.size, 0, none⟩ = some (.int .i64 x.std) ∧ W.cell? ⟨wo.heap.size, 1, none⟩ = some (.int .i64 x.set) ∧ W.cell? ⟨wo.heap.size, 2, none⟩ = some (.int .i64 x.save) ∧ W.cell? ⟨wo.heap.size, 3, none⟩ = some (.string x.fmt)) ∧ (W.cell? ⟨w.heap.size + 1, 0, none⟩ = some (.int .i64 0) ∧ W.cell? ⟨w.heap.size + 1, 1, none⟩ = some (.int .i64 0) ∧ W.cell? ⟨w.heap.size + 1, 2, none⟩ = some (.string ⟨#[]⟩) ∧ W.frozen? ⟨w.heap.size + 1, 0, none⟩ = false ∧ W.frozen? ⟨w.heap.size + 1, 1, none⟩ = false ∧ W.frozen? ⟨w.heap.size + 1, 2, none⟩ = false) ∧ W.heap[w.heap.size + 1]? = some (.cells #[.int .i64 0, .int .i64 0, .string ⟨#[]⟩] 28) ∧ Below w.heap.size w W) := Lib.hid (fun W h => by
        have k := (h.block wo.heap.size (by simp)).trans (World.alloc_heap_new wo (.cells #[.int .i64 x.std, .int .i64 x.set, .int .i64 x.save, .string x.fmt, .int .i64 x.til] 46))
        have hz : Below (w.heap.size + 2) ((w.alloc (.cells #[.slice d.sA d.sn d.sc, .slice d.zA d.zn d.zc, .slice d.lA d.ln d.lc] 26)).alloc (.cells #[.int .i64 0, .int .i64 0, .string ⟨#[]⟩] 28)) (wo.alloc (.cells #[.int .i64 x.std, .int .i64 x.set, .int .i64 x.save, .string x.fmt, .int .i64 x.til] 46)) := Below.alloc hb.out (by have := hb.out.size; simpa using this) _
        have h0 : Below (w.heap.size + 2) ((w.alloc (.cells #[.slice d.sA d.sn d.sc, .slice d.zA d.zn d.zc, .slice d.lA d.ln d.lc] 26)).alloc (.cells #[.int .i64 0, .int .i64 0, .string ⟨#[]⟩] 28)) W := hz.trans (h.mono (by have := hz.size; simpa using this))
        have hN := HN.out W h0
        exact ⟨h0, ⟨cell_of k rfl, cell_of k rfl, cell_of k rfl, cell_of k rfl⟩, hN.2.2.2.2.1, hN.2.2.2.2.2, hN.1⟩)
      have hxx := HXX.out
      by_cases hs : x.set < 0
      · have HO := Lib.hid (off_none (offR_none (d := d) (t := t) hs))
        have gs : decide ((0 : Int) ≤ x.set) = false := by simp; omega
        have hwr : IntKind.i64.wrap (x.std + x.save) = x.std + x.save := wrap_small (by omega) (by omega)
        go_wp2_with fail
        have HH : Hid (Below (wo.alloc (.cells #[.int .i64 x.std, .int .i64 x.set, .int .i64 x.save, .string x.fmt, .int .i64 x.til] 46)).heap.size (wo.alloc (.cells #[.int .i64 x.std, .int .i64 x.set, .int .i64 x.save, .string x.fmt, .int .i64 x.til] 46)) (wo.alloc (.cells #[.int .i64 x.std, .int .i64 x.set, .int .i64 x.save, .string x.fmt, .int .i64 x.til] 46))) := Lib.hid (Below.refl _ _)
        refine (MKC.out _).mono ?_
        rintro e w8 ⟨rfl, h8⟩
        try clear q0 q1 q2 q3
        have h9 := HH.out.trans (h8.mono HH.out.size)
        obtain ⟨_, ⟨q0, q1, q2, q3⟩, _⟩ := HP.out _ h9
        have HW8 := Lib.hid h9
        clear h9 h8 HH
        rcases mark_cases x.fmt with hk | ⟨i, hk, hi⟩
        · have HR : Hid (repl x.fmt ⟨#[]⟩ = x.fmt) := Lib.hid (by unfold repl; rw [hk]; rfl)
          have gm : decide ((0 : Int) ≤ markN x.fmt) = false := by rw [hk]; rfl
          obtain ⟨MM, hMM⟩ : ∃ v, v = markN x.fmt := ⟨_, rfl⟩
          rw [← hMM] at gm
          rw [← hMM]
          clear hMM hk
          obtain ⟨_, _, ⟨r0, r1, r2, f0, f1, f2⟩, _⟩ := HP.out _ HW8.out
          go_wp2
          obtain ⟨_, _, _, k2, hbw⟩ := HP.out _ HW8.out
          refine bodyPost_ret (results_cell_row rfl _ _ (w.heap.size + 1) 28 _ (0, 0) _ rfl (set_obj (set_obj (set_obj k2 _) _) _) Tryz.underlying28 rfl (by kernel_rfl)) rfl ⟨?_, ((hbw.setCell (by simp) _).setCell (by simp) _).setCell (by simp) _⟩
          have e1 : offTo d x t = x.std + x.save := by unfold offTo; rw [HO.out.1]
          have e2 : offAb d x t = x.fmt := by unfold offAb; rw [HO.out.2, HR.out]
          rw [e1, e2, HO.out.1]
          rfl
        · have HR : Hid (repl x.fmt ⟨#[]⟩ = x.fmt.extract 0 i ++ ⟨#[]⟩ ++ x.fmt.extract (i + 2) x.fmt.size) := Lib.hid (by
            unfold repl; rw [hk, if_neg (by omega), Int.toNat_natCast])
          rw [hk]
          clear hk
          have hq1 : (x.fmt.extract 0 i).size + (⟨#[]⟩ : ByteArray).size ≤ 9223372036854775807 := by have hnil : (⟨#[]⟩ : ByteArray).size = 0 := rfl; simp only [ByteArray.size_extract]; omega
          have hq2 : (x.fmt.extract 0 i ++ ⟨#[]⟩).size + (x.fmt.extract (i + 2) x.fmt.size).size ≤ 9223372036854775807 := by have hnil : (⟨#[]⟩ : ByteArray).size = 0 := rfl; simp only [ByteArray.size_append, ByteArray.size_extract]; omega
          go_wp2_with fail
          go_region
          obtain ⟨_, ⟨q0, q1, q2, q3⟩, ⟨r0, r1, r2, f0, f1, f2⟩, _⟩ := HP.out _ HW8.out.drew
          go_wp2
          obtain ⟨_, _, _, k2, hbw⟩ := HP.out _ HW8.out.drew
          refine bodyPost_ret (results_cell_row rfl _ _ (w.heap.size + 1) 28 _ (0, 0) _ rfl (set_obj (set_obj (set_obj k2 _) _) _) Tryz.underlying28 rfl (by kernel_rfl)) rfl ⟨?_, ((hbw.setCell (by simp) _).setCell (by simp) _).setCell (by simp) _⟩
          have e1 : offTo d x t = x.std + x.save := by unfold offTo; rw [HO.out.1]
          have e2 : offAb d x t = x.fmt.extract 0 i ++ ⟨#[]⟩ ++ x.fmt.extract (i + 2) x.fmt.size := by unfold offAb; rw [HO.out.2, HR.out]
          rw [e1, e2, HO.out.1]
          rfl
      · have gs : decide ((0 : Int) ≤ x.set) = true := by simp; omega
        obtain ⟨b5, o5, ⟨qn5, A6, n6, cap6, rs6⟩, hA5, hs5, hsb, hsc⟩ := HSET.out (by omega)
        have HRS : Hid (∀ W, Below (w.heap.size + 2) ((w.alloc (.cells #[.slice d.sA d.sn d.sc, .slice d.zA d.zn d.zc, .slice d.lA d.ln d.lc] 26)).alloc (.cells #[.int .i64 0, .int .i64 0, .string ⟨#[]⟩] 28)) W → RulesAt W W.heap.size A6 n6 rs6) := Lib.hid (fun W h => (hsc W h).2)
        have hl6 : rs6.length = n6 := (HRS.out _ hb.out).1
        have hn6 : n6 ≤ 9223372036854775807 := (HRS.out _ hb.out).2.1
        have HRE : Hid (∀ r ∈ rs6, r.e = 0) := Lib.hid (HDR.out _ (List.mem_of_getElem? hs5))
        have hs0 : 0 ≤ x.set := by omega
        have LAC : Hid (∀ W, Below (w.heap.size + 2) ((w.alloc (.cells #[.slice d.sA d.sn d.sc, .slice d.zA d.zn d.zc, .slice d.lA d.ln d.lc] 26)).alloc (.cells #[.int .i64 0, .int .i64 0, .string ⟨#[]⟩] 28)) W → Calls Tryz.prog 63 #[.slice A6 n6 cap6, .int .i64 x.std, .int .i64 t] W fun e w' => e = .returned (.tuple #[.int .i64 (lastR (latest rs6 x.std t)), .int .i64 (lastW (latest rs6 x.std t)), .bool (lastB (latest rs6 x.std t))]) ∧ Below W.heap.size W w') := Lib.hid (fun W h => last_any A6 n6 cap6 rs6 x.std t W (HRS.out W h) HRE.out s1 s2)
        have HV1 : Hid (Below (w.heap.size + 2) ((w.alloc (.cells #[.slice d.sA d.sn d.sc, .slice d.zA d.zn d.zc, .slice d.lA d.ln d.lc] 26)).alloc (.cells #[.int .i64 0, .int .i64 0, .string ⟨#[]⟩] 28)) (wo.alloc (.cells #[.int .i64 x.std, .int .i64 x.set, .int .i64 x.save, .string x.fmt, .int .i64 x.til] 46))) := Lib.hid (HP.out _ (Below.refl _ _)).1
        have g5 := (hsc _ HV1.out).1
        obtain ⟨c0, c1, c2⟩ := HC.out _ HV1.out
        rw [hA5] at c0
        cases hlb : lastB (latest rs6 x.std t)
        · have HO := Lib.hid (off_none_begun hs hs5 hlb (by omega))
          have hwr : IntKind.i64.wrap (x.std + x.save) = x.std + x.save := wrap_small (by omega) (by omega)
          rw [hlb] at LAC
          obtain ⟨LR, hLR⟩ : ∃ v, v = lastR (latest rs6 x.std t) := ⟨_, rfl⟩
          obtain ⟨LW, hLW⟩ : ∃ v, v = lastW (latest rs6 x.std t) := ⟨_, rfl⟩
          rw [← hLR, ← hLW] at LAC
          clear hLR hLW hlb hs5 hsc hA5
          go_wp2_with fail
          clear x0 x1 x2 x3 x4 c0 c1 c2 g5
          refine (LAC.out _ HV1.out).mono ?_
          rintro e w6 ⟨rfl, h6⟩
          have H6 := Lib.hid h6
          obtain ⟨_, ⟨q0, q1, q2, q3⟩, _⟩ := HP.out _ h6
          clear h6
          go_wp2_with fail
          go_loopw [11, 16] (fun b11 b16 wr => ∃ (i : Int) (L : ByteArray), -1 ≤ i ∧ i < n6 ∧ b16 = .int .i64 i ∧ b11 = .string L ∧ L.size ≤ 12 ∧ Hid (L = leL (rs6.drop (i + 1).toNat)) ∧ Hid (Below (wo.alloc (.cells #[.int .i64 x.std, .int .i64 x.set, .int .i64 x.save, .string x.fmt, .int .i64 x.til] 46)).heap.size (wo.alloc (.cells #[.int .i64 x.std, .int .i64 x.set, .int .i64 x.save, .string x.fmt, .int .i64 x.til] 46)) wr)) (fun _ b16 _ => (intOf b16 + 1).toNat)
          case atStart => exact ⟨(n6 : Int) - 1, ⟨#[]⟩, by omega, by omega, by go_num, rfl, by decide, Lib.hid (by rw [leL_end]; omega), H6⟩
          case round =>
            clear q0 q1 q2 q3
            obtain ⟨i, L, hi1, hi2, rfl, rfl, hLs, hL, hbr⟩ := hrel
            by_cases hi0 : 0 ≤ i
            · obtain ⟨m, hm⟩ : ∃ m : Nat, (m : Int) = i := ⟨i.toNat, by omega⟩
              subst hm
              have hmn : m < n6 := by omega
              obtain ⟨b7, o7, r, hA7, _, hr7, _, hrc⟩ := RulesAt.get (HRS.out _ (HP.out _ hbr.out).1) (i := m) hmn
              obtain ⟨_, _, _, _, _, _, _, e7, e8⟩ := hrc _ (Below.refl _ _)
              have HLA := Lib.hid (leL_at hr7)
              have hr12 := le12 (HRE.out r (List.mem_of_getElem? hr7))
              subst hA7
              clear hrc hr7
              by_cases hq : r.sv = 0
              · have gq : (r.sv == 0) = true := by simpa using hq
                have HX2 : Hid (r.le = leL (rs6.drop ((m : Int) - 1 + 1).toNat)) := Lib.hid (by rw [show ((m : Int) - 1 + 1).toNat = m by omega]; exact (HLA.out.1 (by unfold noSave; exact gq)).symm)
                clear hq HLA hL
                go_wp2
                go_roundw
                case rel => exact ⟨(m : Int) - 1, r.le, by omega, by omega, by go_num, rfl, hr12, HX2, hbr⟩
                case measure => simp [intOf]
              · have gq : (r.sv == 0) = false := by simpa using hq
                have HX2 : Hid (L = leL (rs6.drop ((m : Int) - 1 + 1).toNat)) := Lib.hid (by rw [show ((m : Int) - 1 + 1).toNat = m by omega, (HLA.out.2 (by unfold noSave; exact gq)), hL.out]; congr 2)
                clear hq HLA hL
                go_wp2
                go_roundw
                case rel => exact ⟨(m : Int) - 1, L, by omega, by omega, by go_num, rfl, hLs, HX2, hbr⟩
                case measure => simp [intOf]
            · have hi3 : i = -1 := by omega
              subst hi3
              obtain ⟨_, ⟨q0, q1, q2, q3⟩, _⟩ := HP.out _ hbr.out
              have HO2 : Hid (offSv d x t = x.save ∧ offLe d x t = L) := Lib.hid ⟨HO.out.1, HO.out.2.trans (by rw [hL.out]; rfl)⟩
              clear HO
              have HO := HO2
              clear HO2 hL
              have HH := hbr
              go_wp2_with fail
              refine (MKC.out _).mono ?_
              rintro e w8 ⟨rfl, h8⟩
              try clear q0 q1 q2 q3
              have h9 := HH.out.trans (h8.mono HH.out.size)
              obtain ⟨_, ⟨q0, q1, q2, q3⟩, _⟩ := HP.out _ h9
              have HW8 := Lib.hid h9
              clear h9 h8 HH
              rcases mark_cases x.fmt with hk | ⟨i, hk, hi⟩
              · have HR : Hid (repl x.fmt L = x.fmt) := Lib.hid (by unfold repl; rw [hk]; rfl)
                have gm : decide ((0 : Int) ≤ markN x.fmt) = false := by rw [hk]; rfl
                obtain ⟨MM, hMM⟩ : ∃ v, v = markN x.fmt := ⟨_, rfl⟩
                rw [← hMM] at gm
                rw [← hMM]
                clear hMM hk
                obtain ⟨_, _, ⟨r0, r1, r2, f0, f1, f2⟩, _⟩ := HP.out _ HW8.out
                go_wp2
                obtain ⟨_, _, _, k2, hbw⟩ := HP.out _ HW8.out
                refine bodyPost_ret (results_cell_row rfl _ _ (w.heap.size + 1) 28 _ (0, 0) _ rfl (set_obj (set_obj (set_obj k2 _) _) _) Tryz.underlying28 rfl (by kernel_rfl)) rfl ⟨?_, ((hbw.setCell (by simp) _).setCell (by simp) _).setCell (by simp) _⟩
                have e1 : offTo d x t = x.std + x.save := by unfold offTo; rw [HO.out.1]
                have e2 : offAb d x t = x.fmt := by unfold offAb; rw [HO.out.2, HR.out]
                rw [e1, e2, HO.out.1]
                rfl
              · have HR : Hid (repl x.fmt L = x.fmt.extract 0 i ++ L ++ x.fmt.extract (i + 2) x.fmt.size) := Lib.hid (by
                  unfold repl; rw [hk, if_neg (by omega), Int.toNat_natCast])
                rw [hk]
                clear hk
                have hq1 : (x.fmt.extract 0 i).size + (L : ByteArray).size ≤ 9223372036854775807 := by have hnil : (⟨#[]⟩ : ByteArray).size = 0 := rfl; simp only [ByteArray.size_extract]; omega
                have hq2 : (x.fmt.extract 0 i ++ L).size + (x.fmt.extract (i + 2) x.fmt.size).size ≤ 9223372036854775807 := by have hnil : (⟨#[]⟩ : ByteArray).size = 0 := rfl; simp only [ByteArray.size_append, ByteArray.size_extract]; omega
                go_wp2_with fail
                go_region
                obtain ⟨_, ⟨q0, q1, q2, q3⟩, ⟨r0, r1, r2, f0, f1, f2⟩, _⟩ := HP.out _ HW8.out.drew
                go_wp2
                obtain ⟨_, _, _, k2, hbw⟩ := HP.out _ HW8.out.drew
                refine bodyPost_ret (results_cell_row rfl _ _ (w.heap.size + 1) 28 _ (0, 0) _ rfl (set_obj (set_obj (set_obj k2 _) _) _) Tryz.underlying28 rfl (by kernel_rfl)) rfl ⟨?_, ((hbw.setCell (by simp) _).setCell (by simp) _).setCell (by simp) _⟩
                have e1 : offTo d x t = x.std + x.save := by unfold offTo; rw [HO.out.1]
                have e2 : offAb d x t = x.fmt.extract 0 i ++ L ++ x.fmt.extract (i + 2) x.fmt.size := by unfold offAb; rw [HO.out.2, HR.out]
                rw [e1, e2, HO.out.1]
                rfl
        · obtain ⟨hr0, hr1, r, hrr, hsv, hle⟩ := off_begun hs hs5 hlb
          replace hr0 : 0 ≤ lastR (latest rs6 x.std t) := hr0
          replace hr1 : lastR (latest rs6 x.std t) < rs6.length := hr1
          replace hrr : rs6[(lastR (latest rs6 x.std t)).toNat]? = some r := hrr
          have HO := Lib.hid (And.intro hsv hle)
          have hre := HRE.out r (List.mem_of_getElem? hrr)
          have hr12 := le12 hre
          obtain ⟨hbas, _, hlet, _⟩ := ruleE_zero hre
          obtain ⟨_, _, _, _, _, hv1, hv2⟩ := (ruleBasic_iff _ _ _ _ _).1 hbas
          have hwr : IntKind.i64.wrap (x.std + r.sv) = x.std + r.sv := wrap_small (by omega) (by omega)
          rw [hlb] at LAC
          obtain ⟨b7, o7, r', hA7, _, hr7, _, hrc⟩ := RulesAt.get (HRS.out _ HV1.out) (i := (lastR (latest rs6 x.std t)).toNat) (by omega)
          rw [hrr] at hr7
          injection hr7 with hr7
          subst hr7
          obtain ⟨LR, hLR⟩ : ∃ v, v = lastR (latest rs6 x.std t) := ⟨_, rfl⟩
          obtain ⟨LW, hLW⟩ : ∃ v, v = lastW (latest rs6 x.std t) := ⟨_, rfl⟩
          rw [← hLR, ← hLW] at LAC
          rw [← hLR] at hr0 hr1 hrc
          have HRC := Lib.hid hrc
          subst hA7
          rw [hl6] at hr1
          clear hLR hLW hlb hs5 hsc hA5 hrr hsv hle hre hbas hlet hrc
          go_wp2_with fail
          clear x0 x1 x2 x3 x4 c0 c1 c2 g5
          refine (LAC.out _ HV1.out).mono ?_
          rintro e w6 ⟨rfl, h6⟩
          have H6 := Lib.hid h6
          obtain ⟨_, _, _, _, _, _, _, e7, e8⟩ := HRC.out _ h6
          clear h6
          go_wp2_with fail
          go_region
          go_wp2_with fail
          clear e7 e8
          go_loopw [11, 16] (fun b11 b16 wr => b16 = .int .i64 ((n6 : Int) - 1) ∧ b11 = .string r.le ∧ Hid (Below (wo.alloc (.cells #[.int .i64 x.std, .int .i64 x.set, .int .i64 x.save, .string x.fmt, .int .i64 x.til] 46)).heap.size (wo.alloc (.cells #[.int .i64 x.std, .int .i64 x.set, .int .i64 x.save, .string x.fmt, .int .i64 x.til] 46)) wr)) (fun _ _ _ => 0)
          case atStart => exact ⟨by go_num, rfl, Lib.hid H6.out.drew⟩
          case round =>
            obtain ⟨rfl, rfl, hbr⟩ := hrel
            obtain ⟨_, ⟨q0, q1, q2, q3⟩, _⟩ := HP.out _ hbr.out
            have HH := hbr
            by_cases hn0 : 0 ≤ (n6 : Int) - 1
            · have gn0 : decide ((0 : Int) ≤ (n6 : Int) - 1) = true := by simpa using hn0
              go_wp2_with fail
              refine (MKC.out _).mono ?_
              rintro e w8 ⟨rfl, h8⟩
              try clear q0 q1 q2 q3
              have h9 := HH.out.trans (h8.mono HH.out.size)
              obtain ⟨_, ⟨q0, q1, q2, q3⟩, _⟩ := HP.out _ h9
              have HW8 := Lib.hid h9
              clear h9 h8 HH
              rcases mark_cases x.fmt with hk | ⟨i, hk, hi⟩
              · have HR : Hid (repl x.fmt r.le = x.fmt) := Lib.hid (by unfold repl; rw [hk]; rfl)
                have gm : decide ((0 : Int) ≤ markN x.fmt) = false := by rw [hk]; rfl
                obtain ⟨MM, hMM⟩ : ∃ v, v = markN x.fmt := ⟨_, rfl⟩
                rw [← hMM] at gm
                rw [← hMM]
                clear hMM hk
                obtain ⟨_, _, ⟨r0, r1, r2, f0, f1, f2⟩, _⟩ := HP.out _ HW8.out
                go_wp2
                obtain ⟨_, _, _, k2, hbw⟩ := HP.out _ HW8.out
                refine bodyPost_ret (results_cell_row rfl _ _ (w.heap.size + 1) 28 _ (0, 0) _ rfl (set_obj (set_obj (set_obj k2 _) _) _) Tryz.underlying28 rfl (by kernel_rfl)) rfl ⟨?_, ((hbw.setCell (by simp) _).setCell (by simp) _).setCell (by simp) _⟩
                have e1 : offTo d x t = x.std + r.sv := by unfold offTo; rw [HO.out.1]
                have e2 : offAb d x t = x.fmt := by unfold offAb; rw [HO.out.2, HR.out]
                rw [e1, e2, HO.out.1]
                rfl
              · have HR : Hid (repl x.fmt r.le = x.fmt.extract 0 i ++ r.le ++ x.fmt.extract (i + 2) x.fmt.size) := Lib.hid (by
                  unfold repl; rw [hk, if_neg (by omega), Int.toNat_natCast])
                rw [hk]
                clear hk
                have hq1 : (x.fmt.extract 0 i).size + (r.le : ByteArray).size ≤ 9223372036854775807 := by have hnil : (⟨#[]⟩ : ByteArray).size = 0 := rfl; simp only [ByteArray.size_extract]; omega
                have hq2 : (x.fmt.extract 0 i ++ r.le).size + (x.fmt.extract (i + 2) x.fmt.size).size ≤ 9223372036854775807 := by have hnil : (⟨#[]⟩ : ByteArray).size = 0 := rfl; simp only [ByteArray.size_append, ByteArray.size_extract]; omega
                go_wp2_with fail
                go_region
                obtain ⟨_, ⟨q0, q1, q2, q3⟩, ⟨r0, r1, r2, f0, f1, f2⟩, _⟩ := HP.out _ HW8.out.drew
                go_wp2
                obtain ⟨_, _, _, k2, hbw⟩ := HP.out _ HW8.out.drew
                refine bodyPost_ret (results_cell_row rfl _ _ (w.heap.size + 1) 28 _ (0, 0) _ rfl (set_obj (set_obj (set_obj k2 _) _) _) Tryz.underlying28 rfl (by kernel_rfl)) rfl ⟨?_, ((hbw.setCell (by simp) _).setCell (by simp) _).setCell (by simp) _⟩
                have e1 : offTo d x t = x.std + r.sv := by unfold offTo; rw [HO.out.1]
                have e2 : offAb d x t = x.fmt.extract 0 i ++ r.le ++ x.fmt.extract (i + 2) x.fmt.size := by unfold offAb; rw [HO.out.2, HR.out]
                rw [e1, e2, HO.out.1]
                rfl
            · exfalso; omega
end Go.Proofs.YtlngalmdidaahaaGreatDoor
end
/-! What must be in any case of what holds. -/
section
set_option linter.unusedVariables false
namespace Go.Proofs.YtlngalmdidaahaaGreatDoor
open Go.RowKit Gno
theorem eu_at (W : World) (nm : ByteArray) (t : Int) (hM : MaxAt (euW W) (euW W).heap.size) {a b : Int} {s : ByteArray} (h : oaE (euD W.heap.size (-1) sOld) nm t = 0 ∧ oaTo (euD W.heap.size (-1) sOld) nm t = a ∧ oaSv (euD W.heap.size (-1) sOld) nm t = b ∧ oaAb (euD W.heap.size (-1) sOld) nm t = s) :
    Calls Tryz.prog 10 #[.agg #[.slice (some ⟨W.heap.size + 2, 0, none⟩) 1 1, .slice (some ⟨W.heap.size + 5, 0, none⟩) 2 2, .slice (some ⟨W.heap.size + 6, 0, none⟩) 2 2], .string nm, .int .i64 t] (euW W) fun e w' => e = .returned (.tuple #[.agg #[.int .i64 a, .int .i64 b, .string s], .int .i64 0]) ∧ Below (euW W).heap.size (euW W) w' := by
  have := at_any (euD W.heap.size (-1) sOld) nm t (euW W) (eu_data (euW_in W) (by rw [euW_size]; omega) old_le) hM
  rw [h.1, h.2.1, h.2.2.1, h.2.2.2] at this
  exact this
set_option maxRecDepth 100000 in
set_option maxHeartbeats 4000000 in
theorem offBegun_any (w : World) (hM : MaxAt w w.heap.size) :
    Calls Tryz.prog 12 #[] w fun e w' => e = .returned (.bool true) ∧ Below w.heap.size w w' := by
  have SP := Lib.hid eu_mk
  have NX : Hid (∀ {w1 : World}, Below w.heap.size w w1 → Below w.heap.size w (euW w1)) := Lib.hid (fun h => euW_next h)
  have MX : Hid (∀ {w1 : World}, Below w.heap.size w w1 → MaxAt w1 w1.heap.size) := Lib.hid (fun h => hM.next h)
  have T0 : Hid (∀ W, MaxAt (euW W) (euW W).heap.size → Calls Tryz.prog 10 #[.agg #[.slice (some ⟨W.heap.size + 2, 0, none⟩) 1 1, .slice (some ⟨W.heap.size + 5, 0, none⟩) 2 2, .slice (some ⟨W.heap.size + 6, 0, none⟩) 2 2], .string ⟨#[84, 111, 119, 110]⟩, .int .i64 1585443600] (euW W) fun e w' => e = .returned (.tuple #[.agg #[.int .i64 7200, .int .i64 3600, .string ⟨#[67, 69, 68, 84]⟩], .int .i64 0]) ∧ Below (euW W).heap.size (euW W) w') := Lib.hid (fun W h => eu_at W sTown 1585443600 h (eu_a _))
  have T1 : Hid (∀ W, MaxAt (euW W) (euW W).heap.size → Calls Tryz.prog 10 #[.agg #[.slice (some ⟨W.heap.size + 2, 0, none⟩) 1 1, .slice (some ⟨W.heap.size + 5, 0, none⟩) 2 2, .slice (some ⟨W.heap.size + 6, 0, none⟩) 2 2], .string ⟨#[84]⟩, .int .i64 1585443599] (euW W) fun e w' => e = .returned (.tuple #[.agg #[.int .i64 3600, .int .i64 0, .string ⟨#[67, 69, 83, 84]⟩], .int .i64 0]) ∧ Below (euW W).heap.size (euW W) w') := Lib.hid (fun W h => eu_at W sTt 1585443599 h (eu_b _))
  have T2 : Hid (∀ W, MaxAt (euW W) (euW W).heap.size → Calls Tryz.prog 10 #[.agg #[.slice (some ⟨W.heap.size + 2, 0, none⟩) 1 1, .slice (some ⟨W.heap.size + 5, 0, none⟩) 2 2, .slice (some ⟨W.heap.size + 6, 0, none⟩) 2 2], .string ⟨#[69, 47, 79, 108, 100, 95, 84, 111, 119, 110]⟩, .int .i64 7] (euW W) fun e w' => e = .returned (.tuple #[.agg #[.int .i64 1800, .int .i64 0, .string ⟨#[76, 77, 84]⟩], .int .i64 0]) ∧ Below (euW W).heap.size (euW W) w') := Lib.hid (fun W h => eu_at W sOld 7 h (eu_c _))
  have T3 : Hid (∀ W, MaxAt (euW W) (euW W).heap.size → Calls Tryz.prog 10 #[.agg #[.slice (some ⟨W.heap.size + 2, 0, none⟩) 1 1, .slice (some ⟨W.heap.size + 5, 0, none⟩) 2 2, .slice (some ⟨W.heap.size + 6, 0, none⟩) 2 2], .string ⟨#[65, 47, 87, 101, 115, 116]⟩, .int .i64 7] (euW W) fun e w' => e = .returned (.tuple #[.agg #[.int .i64 (-14400), .int .i64 3600, .string ⟨#[88, 84]⟩], .int .i64 0]) ∧ Below (euW W).heap.size (euW W) w') := Lib.hid (fun W h => eu_at W sAW 7 h (eu_d _))
  clear hM
  have h0 := Below.refl w.heap.size w
  go_enter Tryz.func12, Tryz.ntmps12
  go_wp2_with fail
  refine (SP.out _).mono ?_
  rintro e w' ⟨rfl, rfl⟩
  go_wp2_with fail
  refine (T0.out _ (MX.out (NX.out h0))).mono ?_
  rintro e u1 ⟨rfl, hb⟩
  have hu : Below w.heap.size w u1 := (NX.out h0).trans (hb.mono (NX.out h0).size)
  have HL1 : Hid (Below w.heap.size w (u1.alloc (.cells #[.int .i64 7200, .int .i64 3600, .string ⟨#[67, 69, 68, 84]⟩] 28))) := Lib.hid (((euW_below w).trans (hb.mono (euW_below w).size)).alloc (by have := (euW_below w).size; have := hb.size; omega) _)
  have HB : Hid (Below w.heap.size w (u1.alloc (.cells #[.int .i64 7200, .int .i64 3600, .string ⟨#[67, 69, 68, 84]⟩] 28))) := Lib.hid (hu.alloc hu.size _)
  have HO1 : Hid ((u1.alloc (.cells #[.int .i64 7200, .int .i64 3600, .string ⟨#[67, 69, 68, 84]⟩] 28)).heap[u1.heap.size]? = some (.cells #[.int .i64 7200, .int .i64 3600, .string ⟨#[67, 69, 68, 84]⟩] 28)) := Lib.hid (World.alloc_heap_new _ _)
  have HZ1 : Hid ((u1.alloc (.cells #[.int .i64 7200, .int .i64 3600, .string ⟨#[67, 69, 68, 84]⟩] 28)).heap.size = u1.heap.size + 1) := Lib.hid (World.size_alloc _ _)
  clear hb hu h0
  go_wp2_with fail
  obtain ⟨v1, hv⟩ : ∃ v : World, v = u1.alloc (.cells #[.int .i64 7200, .int .i64 3600, .string ⟨#[67, 69, 68, 84]⟩] 28) := ⟨_, rfl⟩
  rw [← hv] at HB HL1 HO1 HZ1
  rw [← hv]
  clear hv
  have h1 := HB.out
  clear HB
  go_wp2_with fail
  refine (SP.out _).mono ?_
  rintro e w' ⟨rfl, rfl⟩
  go_wp2_with fail
  refine (T1.out _ (MX.out (NX.out h1))).mono ?_
  rintro e u2 ⟨rfl, hb⟩
  have hu : Below w.heap.size w u2 := (NX.out h1).trans (hb.mono (NX.out h1).size)
  have HL2 : Hid (Below v1.heap.size v1 (u2.alloc (.cells #[.int .i64 3600, .int .i64 0, .string ⟨#[67, 69, 83, 84]⟩] 28))) := Lib.hid (((euW_below v1).trans (hb.mono (euW_below v1).size)).alloc (by have := (euW_below v1).size; have := hb.size; omega) _)
  have HB : Hid (Below w.heap.size w (u2.alloc (.cells #[.int .i64 3600, .int .i64 0, .string ⟨#[67, 69, 83, 84]⟩] 28))) := Lib.hid (hu.alloc hu.size _)
  have HO2 : Hid ((u2.alloc (.cells #[.int .i64 3600, .int .i64 0, .string ⟨#[67, 69, 83, 84]⟩] 28)).heap[u2.heap.size]? = some (.cells #[.int .i64 3600, .int .i64 0, .string ⟨#[67, 69, 83, 84]⟩] 28)) := Lib.hid (World.alloc_heap_new _ _)
  have HZ2 : Hid ((u2.alloc (.cells #[.int .i64 3600, .int .i64 0, .string ⟨#[67, 69, 83, 84]⟩] 28)).heap.size = u2.heap.size + 1) := Lib.hid (World.size_alloc _ _)
  clear hb hu h1
  go_wp2_with fail
  obtain ⟨v2, hv⟩ : ∃ v : World, v = u2.alloc (.cells #[.int .i64 3600, .int .i64 0, .string ⟨#[67, 69, 83, 84]⟩] 28) := ⟨_, rfl⟩
  rw [← hv] at HB HL2 HO2 HZ2
  rw [← hv]
  clear hv
  have h2 := HB.out
  clear HB
  go_wp2_with fail
  refine (SP.out _).mono ?_
  rintro e w' ⟨rfl, rfl⟩
  go_wp2_with fail
  refine (T2.out _ (MX.out (NX.out h2))).mono ?_
  rintro e u3 ⟨rfl, hb⟩
  have hu : Below w.heap.size w u3 := (NX.out h2).trans (hb.mono (NX.out h2).size)
  have HL3 : Hid (Below v2.heap.size v2 (u3.alloc (.cells #[.int .i64 1800, .int .i64 0, .string ⟨#[76, 77, 84]⟩] 28))) := Lib.hid (((euW_below v2).trans (hb.mono (euW_below v2).size)).alloc (by have := (euW_below v2).size; have := hb.size; omega) _)
  have HB : Hid (Below w.heap.size w (u3.alloc (.cells #[.int .i64 1800, .int .i64 0, .string ⟨#[76, 77, 84]⟩] 28))) := Lib.hid (hu.alloc hu.size _)
  have HO3 : Hid ((u3.alloc (.cells #[.int .i64 1800, .int .i64 0, .string ⟨#[76, 77, 84]⟩] 28)).heap[u3.heap.size]? = some (.cells #[.int .i64 1800, .int .i64 0, .string ⟨#[76, 77, 84]⟩] 28)) := Lib.hid (World.alloc_heap_new _ _)
  have HZ3 : Hid ((u3.alloc (.cells #[.int .i64 1800, .int .i64 0, .string ⟨#[76, 77, 84]⟩] 28)).heap.size = u3.heap.size + 1) := Lib.hid (World.size_alloc _ _)
  clear hb hu h2
  go_wp2_with fail
  obtain ⟨v3, hv⟩ : ∃ v : World, v = u3.alloc (.cells #[.int .i64 1800, .int .i64 0, .string ⟨#[76, 77, 84]⟩] 28) := ⟨_, rfl⟩
  rw [← hv] at HB HL3 HO3 HZ3
  rw [← hv]
  clear hv
  have h3 := HB.out
  clear HB
  go_wp2_with fail
  refine (SP.out _).mono ?_
  rintro e w' ⟨rfl, rfl⟩
  go_wp2_with fail
  refine (T3.out _ (MX.out (NX.out h3))).mono ?_
  rintro e u4 ⟨rfl, hb⟩
  have hu : Below w.heap.size w u4 := (NX.out h3).trans (hb.mono (NX.out h3).size)
  have HL4 : Hid (Below v3.heap.size v3 (u4.alloc (.cells #[.int .i64 (-14400), .int .i64 3600, .string ⟨#[88, 84]⟩] 28))) := Lib.hid (((euW_below v3).trans (hb.mono (euW_below v3).size)).alloc (by have := (euW_below v3).size; have := hb.size; omega) _)
  have HB : Hid (Below w.heap.size w (u4.alloc (.cells #[.int .i64 (-14400), .int .i64 3600, .string ⟨#[88, 84]⟩] 28))) := Lib.hid (hu.alloc hu.size _)
  have HO4 : Hid ((u4.alloc (.cells #[.int .i64 (-14400), .int .i64 3600, .string ⟨#[88, 84]⟩] 28)).heap[u4.heap.size]? = some (.cells #[.int .i64 (-14400), .int .i64 3600, .string ⟨#[88, 84]⟩] 28)) := Lib.hid (World.alloc_heap_new _ _)
  have HZ4 : Hid ((u4.alloc (.cells #[.int .i64 (-14400), .int .i64 3600, .string ⟨#[88, 84]⟩] 28)).heap.size = u4.heap.size + 1) := Lib.hid (World.size_alloc _ _)
  clear hb hu h3
  have z1 := HZ1.out
  have z2 := HZ2.out
  have z3 := HZ3.out
  have y2 := HL2.out.size
  have y3 := HL3.out.size
  have k3 : (u4.alloc (.cells #[.int .i64 (-14400), .int .i64 3600, .string ⟨#[88, 84]⟩] 28)).heap[u3.heap.size]? = some (.cells #[.int .i64 1800, .int .i64 0, .string ⟨#[76, 77, 84]⟩] 28) := (HL4.out.block _ (by omega)).trans HO3.out
  have k2 : (u4.alloc (.cells #[.int .i64 (-14400), .int .i64 3600, .string ⟨#[88, 84]⟩] 28)).heap[u2.heap.size]? = some (.cells #[.int .i64 3600, .int .i64 0, .string ⟨#[67, 69, 83, 84]⟩] 28) := (HL4.out.block _ (by omega)).trans ((HL3.out.block _ (by omega)).trans HO2.out)
  have k1 : (u4.alloc (.cells #[.int .i64 (-14400), .int .i64 3600, .string ⟨#[88, 84]⟩] 28)).heap[u1.heap.size]? = some (.cells #[.int .i64 7200, .int .i64 3600, .string ⟨#[67, 69, 68, 84]⟩] 28) := (HL4.out.block _ (by omega)).trans ((HL3.out.block _ (by omega)).trans ((HL2.out.block _ (by omega)).trans HO1.out))
  have c00 : (u4.alloc (.cells #[.int .i64 (-14400), .int .i64 3600, .string ⟨#[88, 84]⟩] 28)).cell? ⟨u1.heap.size, 0, none⟩ = some (.int .i64 7200) := cell_of k1 rfl
  have c01 : (u4.alloc (.cells #[.int .i64 (-14400), .int .i64 3600, .string ⟨#[88, 84]⟩] 28)).cell? ⟨u1.heap.size, 1, none⟩ = some (.int .i64 3600) := cell_of k1 rfl
  have c02 : (u4.alloc (.cells #[.int .i64 (-14400), .int .i64 3600, .string ⟨#[88, 84]⟩] 28)).cell? ⟨u1.heap.size, 2, none⟩ = some (.string ⟨#[67, 69, 68, 84]⟩) := cell_of k1 rfl
  have c10 : (u4.alloc (.cells #[.int .i64 (-14400), .int .i64 3600, .string ⟨#[88, 84]⟩] 28)).cell? ⟨u2.heap.size, 0, none⟩ = some (.int .i64 3600) := cell_of k2 rfl
  have c11 : (u4.alloc (.cells #[.int .i64 (-14400), .int .i64 3600, .string ⟨#[88, 84]⟩] 28)).cell? ⟨u2.heap.size, 1, none⟩ = some (.int .i64 0) := cell_of k2 rfl
  have c12 : (u4.alloc (.cells #[.int .i64 (-14400), .int .i64 3600, .string ⟨#[88, 84]⟩] 28)).cell? ⟨u2.heap.size, 2, none⟩ = some (.string ⟨#[67, 69, 83, 84]⟩) := cell_of k2 rfl
  have c20 : (u4.alloc (.cells #[.int .i64 (-14400), .int .i64 3600, .string ⟨#[88, 84]⟩] 28)).cell? ⟨u3.heap.size, 0, none⟩ = some (.int .i64 1800) := cell_of k3 rfl
  have c21 : (u4.alloc (.cells #[.int .i64 (-14400), .int .i64 3600, .string ⟨#[88, 84]⟩] 28)).cell? ⟨u3.heap.size, 1, none⟩ = some (.int .i64 0) := cell_of k3 rfl
  have c22 : (u4.alloc (.cells #[.int .i64 (-14400), .int .i64 3600, .string ⟨#[88, 84]⟩] 28)).cell? ⟨u3.heap.size, 2, none⟩ = some (.string ⟨#[76, 77, 84]⟩) := cell_of k3 rfl
  clear z1 z2 z3 y2 y3 k1 k2 k3
  go_wp2
  go_ret
  exact ⟨rfl, HB.out⟩
end Go.Proofs.YtlngalmdidaahaaGreatDoor
end
/-! The reference's OffOf, and the walk of OffTells. -/
section
set_option linter.unusedVariables false
namespace Go.Proofs.YtlngalmdidaahaaGreatDoor
open Go.RowKit Gno
set_option maxRecDepth 100000 in
set_option maxHeartbeats 4000000 in
theorem offOf_any (d : Dt) (nm : ByteArray) (t : Int) (w : World) (hD : DataAt w w.heap.size d) (hM : MaxAt w w.heap.size) :
    Calls Tryz.prog 11 #[d.val, .string nm, .int .i64 t] w fun e w' => e = .returned (.tuple #[.agg #[.int .i64 (oaTo d nm t), .int .i64 (oaSv d nm t), .string (oaAb d nm t)], .int .i64 (oaE d nm t)]) ∧ Below w.heap.size w w' := by
  have HN := Lib.hid (fun W hb => at_next (d := d) (w := w) (W := W) hD hM hb)
  have HZ : Hid (∀ W, Below (w.heap.size + 2) ((w.alloc (.cells #[.slice d.sA d.sn d.sc, .slice d.zA d.zn d.zc, .slice d.lA d.ln d.lc] 26)).alloc (.cells #[.int .i64 0, .int .i64 0, .string ⟨#[]⟩] 28)) W → Calls Tryz.prog 29 #[.agg #[.slice d.sA d.sn d.sc, .slice d.zA d.zn d.zc, .slice d.lA d.ln d.lc], .string nm] W fun e w' => e = .returned (.tuple #[.int .i64 (zoneK d nm), .int .i64 (zoneEr d nm)]) ∧ Below (w.heap.size + 2) ((w.alloc (.cells #[.slice d.sA d.sn d.sc, .slice d.zA d.zn d.zc, .slice d.lA d.ln d.lc] 26)).alloc (.cells #[.int .i64 0, .int .i64 0, .string ⟨#[]⟩] 28)) w') := Lib.hid (fun W h =>
    (zoneOf_any d nm W (HN.out W h).2.1).mono fun _ _ h2 => ⟨h2.1, h.trans (h2.2.mono (by have := h.size; simp at this ⊢ <;> omega))⟩)
  have hbb := Below.refl (w.heap.size + 2) ((w.alloc (.cells #[.slice d.sA d.sn d.sc, .slice d.zA d.zn d.zc, .slice d.lA d.ln d.lc] 26)).alloc (.cells #[.int .i64 0, .int .i64 0, .string ⟨#[]⟩] 28))
  unfold Dt.val
  by_cases he : zoneEr d nm = 0
  · by_cases ht : t < 0 ∨ 1893456000 ≤ t
    · have hE : oaE d nm t = 3 := by unfold oaE; rw [if_neg (by simp [he]), if_pos ht]
      have HO := Lib.hid (at_bad hE (by decide))
      rw [hE]
      obtain ⟨KK, hK⟩ : ∃ v, v = zoneK d nm := ⟨_, rfl⟩
      rw [he, ← hK] at HZ
      clear he hE hK hD hM
      have IT : Hid (∀ w, Calls Tryz.prog 30 #[.int .i64 t] w fun e w' => e = .returned (.bool false) ∧ w = w') := Lib.hid (fun w => by
        have := isTime_any t w
        rwa [show timeOk t = false by unfold timeOk; exact (withinB_no _ _ _).2 (by omega)] at this)
      clear ht
      go_enter Tryz.func11, Tryz.ntmps11
      go_wp2_with fail
      refine (HZ.out _ hbb).mono ?_
      rintro e w3 ⟨rfl, h3⟩
      go_wp2_with fail
      refine (IT.out _).mono ?_
      rintro e w4 ⟨rfl, rfl⟩
      obtain ⟨hbw, _, _, _, ⟨r0, r1, r2, f0, f1, f2⟩, k2⟩ := HN.out _ h3
      have K2 := Lib.hid k2
      clear k2
      go_wp2
      refine bodyPost_ret (results_cell_row_tmp rfl _ _ (w.heap.size + 1) 28 _ (0, 0) _ rfl (set_obj (set_obj (set_obj K2.out _) _) _) Tryz.underlying28 rfl (by kernel_rfl)) rfl ⟨?_, ((hbw.setCell (by simp) _).setCell (by simp) _).setCell (by simp) _⟩
      exact ret_at HO.out.1.symm HO.out.2.1.symm HO.out.2.2.symm rfl
    · have hE : oaE d nm t = 0 := by unfold oaE; rw [if_neg (by simp [he]), if_neg ht]
      have hd0 : dataE d = 0 := by
        unfold zoneEr at he
        split at he
        · rename_i q; exact absurd he q
        · rename_i q; exact Classical.not_not.1 q
      have hle : ¬ leadN d nm < 0 := by
        intro q
        have := (zone_none (nm := nm) hd0 q).2
        rw [he] at this; cases this
      have hzk := (zone_is (nm := nm) hd0 hle).1
      have hlr := (leadT_range d (d.ls.length + 1) nm).2
      have hlr : leadN d nm < d.zs.length := hlr
      have hzk0 : 0 ≤ zoneK d nm := by omega
      have hzq := List.getElem?_eq_getElem (l := d.zs) (i := (zoneK d nm).toNat) (by omega)
      have hr := rightE_of hd0
      have HO := Lib.hid (at_good hE hzq)
      rw [hE]
      have HF : Hid (∀ W, Below (w.heap.size + 2) ((w.alloc (.cells #[.slice d.sA d.sn d.sc, .slice d.zA d.zn d.zc, .slice d.lA d.ln d.lc] 26)).alloc (.cells #[.int .i64 0, .int .i64 0, .string ⟨#[]⟩] 28)) W → Calls Tryz.prog 31 #[.agg #[.slice d.sA d.sn d.sc, .slice d.zA d.zn d.zc, .slice d.lA d.ln d.lc], .int .i64 (zoneK d nm), .int .i64 t] W fun e w' => e = .returned (.agg #[.int .i64 (oaTo d nm t), .int .i64 (oaSv d nm t), .string (oaAb d nm t)]) ∧ Below (w.heap.size + 2) ((w.alloc (.cells #[.slice d.sA d.sn d.sc, .slice d.zA d.zn d.zc, .slice d.lA d.ln d.lc] 26)).alloc (.cells #[.int .i64 0, .int .i64 0, .string ⟨#[]⟩] 28)) w') := Lib.hid (fun W h => by
        have h2 := holdsRef_any d (zoneK d nm) t _ W (HN.out W h).2.1 (HN.out W h).2.2.1 hr hzq hzk0 (by omega)
        rw [← HO.out.1, ← HO.out.2.1, ← HO.out.2.2] at h2
        exact h2.mono fun _ _ h3 => ⟨h3.1, h.trans (h3.2.mono (by have := h.size; simp at this ⊢ <;> omega))⟩)
      obtain ⟨KK, hK⟩ : ∃ v, v = zoneK d nm := ⟨_, rfl⟩
      obtain ⟨TT, hTT⟩ : ∃ v, v = oaTo d nm t := ⟨_, rfl⟩
      obtain ⟨SS, hSS⟩ : ∃ v, v = oaSv d nm t := ⟨_, rfl⟩
      obtain ⟨AB, hAB⟩ : ∃ v, v = oaAb d nm t := ⟨_, rfl⟩
      rw [he, ← hK] at HZ
      rw [← hK, ← hTT, ← hSS, ← hAB] at HF
      rw [← hTT, ← hSS, ← hAB]
      have IT : Hid (∀ w, Calls Tryz.prog 30 #[.int .i64 t] w fun e w' => e = .returned (.bool true) ∧ w = w') := Lib.hid (fun w => by
        have := isTime_any t w
        rwa [show timeOk t = true by unfold timeOk; exact (withinB_iff _ _ _).2 (by omega)] at this)
      clear he hE hK hTT hSS hAB hD hM hd0 hle hzk hlr hzk0 hzq hr HO ht
      go_enter Tryz.func11, Tryz.ntmps11
      go_wp2_with fail
      refine (HZ.out _ hbb).mono ?_
      rintro e w3 ⟨rfl, h3⟩
      go_wp2_with fail
      refine (IT.out _).mono ?_
      rintro e w5 ⟨rfl, rfl⟩
      obtain ⟨_, _, _, ⟨c0, c1, c2⟩, _⟩ := HN.out _ h3
      go_wp2_with fail
      refine (HF.out _ h3).mono ?_
      rintro e w4 ⟨rfl, h4⟩
      clear c0 c1 c2
      obtain ⟨hbw, _, _, _, ⟨r0, r1, r2, f0, f1, f2⟩, k2⟩ := HN.out _ h4
      have K2 := Lib.hid k2
      clear k2
      go_wp2
      refine bodyPost_ret (results_cell_row_tmp rfl _ _ (w.heap.size + 1) 28 _ (0, 0) _ rfl (set_obj (set_obj (set_obj K2.out _) _) _) Tryz.underlying28 rfl (by kernel_rfl)) rfl ⟨rfl, ((hbw.setCell (by simp) _).setCell (by simp) _).setCell (by simp) _⟩
  · have hE : oaE d nm t = zoneEr d nm := by unfold oaE; rw [if_pos he]
    have HO := Lib.hid (at_bad hE he)
    rw [hE]
    obtain ⟨KK, hK⟩ : ∃ v, v = zoneK d nm := ⟨_, rfl⟩
    obtain ⟨EE, hEE⟩ : ∃ v, v = zoneEr d nm := ⟨_, rfl⟩
    rw [← hK, ← hEE] at HZ
    rw [← hEE] at he ⊢
    have g1 : (EE != 0) = true := by simpa using he
    clear he hE hK hEE hD hM
    go_enter Tryz.func11, Tryz.ntmps11
    go_wp2_with fail
    refine (HZ.out _ hbb).mono ?_
    rintro e w3 ⟨rfl, h3⟩
    obtain ⟨hbw, _, _, _, ⟨r0, r1, r2, f0, f1, f2⟩, k2⟩ := HN.out _ h3
    have K2 := Lib.hid k2
    clear k2
    go_wp2
    refine bodyPost_ret (results_cell_row_tmp rfl _ _ (w.heap.size + 1) 28 _ (0, 0) _ rfl (set_obj (set_obj (set_obj K2.out _) _) _) Tryz.underlying28 rfl (by kernel_rfl)) rfl ⟨?_, ((hbw.setCell (by simp) _).setCell (by simp) _).setCell (by simp) _⟩
    exact ret_at HO.out.1.symm HO.out.2.1.symm HO.out.2.2.symm rfl
set_option maxRecDepth 100000 in
set_option maxHeartbeats 4000000 in
theorem offTells_walk (d : Dt) (nm : ByteArray) (t : Int) (w : World) (hD : DataAt w w.heap.size d) (hM : MaxAt w w.heap.size) :
    Calls Tryz.prog 3 #[d.val, .string nm, .int .i64 t] w fun e w' => e = .returned (.bool true) ∧ Below w.heap.size w w' := by
  have HN := Lib.hid (fun W (hb : BoxB d w W) => box_next (d := d) (w := w) (W := W) hD hb)
  have A1 := Lib.hid (fun W (hb : BoxB d w W) => at_any d nm t W (HN.out W hb).2.1 (hM.next (HN.out W hb).1))
  have A2 := Lib.hid (fun W (hb : BoxB d w W) => offOf_any d nm t W (HN.out W hb).2.1 (hM.next (HN.out W hb).1))
  have B1 := Lib.hid (fun W (hb : BoxB d w W) => offBegun_any W (hM.next (HN.out W hb).1))
  clear hD hM
  unfold Dt.val at *
  obtain ⟨TT, hT⟩ : ∃ v, v = oaTo d nm t := ⟨_, rfl⟩
  obtain ⟨SS, hS⟩ : ∃ v, v = oaSv d nm t := ⟨_, rfl⟩
  obtain ⟨AB, hA⟩ : ∃ v, v = oaAb d nm t := ⟨_, rfl⟩
  obtain ⟨EE, hEE⟩ : ∃ v, v = oaE d nm t := ⟨_, rfl⟩
  rw [← hT, ← hS, ← hA, ← hEE] at A1 A2
  clear hT hS hA hEE
  go_enter Tryz.func3, Tryz.ntmps3
  go_wp2_with fail
  refine (A1.out _ (Below.refl _ _)).mono ?_
  rintro e u1 ⟨rfl, h1⟩
  have hb1 : BoxB d w u1 := h1.mono (by simp)
  have hbv : BoxB d w (u1.alloc (.cells #[.int .i64 TT, .int .i64 SS, .string AB] 28)) := Below.alloc hb1 (by have := hb1.size; simpa using this) _
  have HO : Hid (∀ W, Below (u1.alloc (.cells #[.int .i64 TT, .int .i64 SS, .string AB] 28)).heap.size (u1.alloc (.cells #[.int .i64 TT, .int .i64 SS, .string AB] 28)) W → BoxB d w W ∧ (W.cell? ⟨u1.heap.size, 0, none⟩ = some (.int .i64 TT) ∧ W.cell? ⟨u1.heap.size, 1, none⟩ = some (.int .i64 SS) ∧ W.cell? ⟨u1.heap.size, 2, none⟩ = some (.string AB))) := Lib.hid (fun W h => by
    have k := (h.block u1.heap.size (by simp)).trans (World.alloc_heap_new u1 (.cells #[.int .i64 TT, .int .i64 SS, .string AB] 28))
    exact ⟨hbv.trans (h.mono (by have := hbv.size; simp at this ⊢ <;> omega)), cell_of k rfl, cell_of k rfl, cell_of k rfl⟩)
  have HU := Lib.hid hbv
  obtain ⟨_, _, c0, c1, c2⟩ := HN.out _ hbv
  clear h1 hb1 hbv
  go_wp2_with fail
  clear c0 c1 c2
  obtain ⟨v1, hv⟩ : ∃ v : World, v = u1.alloc (.cells #[.int .i64 TT, .int .i64 SS, .string AB] 28) := ⟨_, rfl⟩
  rw [← hv] at HO HU
  rw [← hv]
  clear hv
  refine (A2.out _ HU.out).mono ?_
  rintro e u2 ⟨rfl, h2⟩
  have hc2 : Below v1.heap.size v1 (u2.alloc (.cells #[.int .i64 TT, .int .i64 SS, .string AB] 28)) := Below.alloc h2 h2.size _
  have HQ : Hid (∀ W, Below (u2.alloc (.cells #[.int .i64 TT, .int .i64 SS, .string AB] 28)).heap.size (u2.alloc (.cells #[.int .i64 TT, .int .i64 SS, .string AB] 28)) W → (Below v1.heap.size v1 W) ∧ (W.cell? ⟨u2.heap.size, 0, none⟩ = some (.int .i64 TT) ∧ W.cell? ⟨u2.heap.size, 1, none⟩ = some (.int .i64 SS) ∧ W.cell? ⟨u2.heap.size, 2, none⟩ = some (.string AB))) := Lib.hid (fun W h => by
    have k := (h.block u2.heap.size (by simp)).trans (World.alloc_heap_new u2 (.cells #[.int .i64 TT, .int .i64 SS, .string AB] 28))
    exact ⟨hc2.trans (h.mono hc2.size), cell_of k rfl, cell_of k rfl, cell_of k rfl⟩)
  have HC2 := Lib.hid hc2
  clear h2 hc2
  go_wp2_with fail
  refine (B1.out _ (HO.out _ HC2.out).1).mono ?_
  rintro e u3 ⟨rfl, h3⟩
  obtain ⟨hq, q0, q1, q2⟩ := HQ.out _ h3
  obtain ⟨ho, o0, o1, o2⟩ := HO.out _ hq
  have hbw := (HN.out _ ho).1
  clear h3 hq ho
  go_wp2
  go_ret
  exact ⟨rfl, hbw⟩
end Go.Proofs.YtlngalmdidaahaaGreatDoor
end
