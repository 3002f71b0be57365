/- Parts of a proof, laid together. -/
import Derived.Test.YtbbbeldbhlehnaaGreatDoorMUNmTl30
import Derived.Test.YtbbbeldbhlehnaaGreatDoorMUNmTl29
import Derived.Test.YtbbbeldbhlehnaaGreatDoorMUNmTl17
set_option linter.unusedSimpArgs false
set_option linter.unusedVariables false
/-! Plain: what holds in the data of two zones. -/
section
set_option linter.unusedVariables false
set_option linter.unusedSimpArgs false
namespace Gno
open Go
def sCEDT : ByteArray := ⟨#[67, 69, 68, 84]⟩
def sCEST : ByteArray := ⟨#[67, 69, 83, 84]⟩
theorem eu_lead {k : Nat} {nm : ByteArray} {v : Int} (h : leadN (euD k (-1) sOld) nm = v) (hv : 0 ≤ v) : zoneK (euD k (-1) sOld) nm = v ∧ zoneEr (euD k (-1) sOld) nm = 0 := by
  have := zone_is (eu_ok k) (nm := nm) (by omega)
  rwa [h] at this
theorem oa_of {d : Dt} {nm : ByteArray} {t : Int} {v : Int} {z : Zn} {x : Er} (h : zoneK d nm = v ∧ zoneEr d nm = 0) (ht : ¬ (t < 0 ∨ 1893456000 ≤ t)) (hz : d.zs[v.toNat]? = some z) (hx : eraOf z t = x) :
    oaE d nm t = 0 ∧ oaTo d nm t = offTo d x t ∧ oaSv d nm t = offSv d x t ∧ oaAb d nm t = offAb d x t := by
  have hE : oaE d nm t = 0 := by unfold oaE; rw [if_neg (by simp [h.2]), if_neg ht]
  have := at_good hE (z := z) (by rw [h.1]; exact hz)
  rw [hx] at this
  exact ⟨hE, this⟩
theorem eu_set {k : Nat} {x : Er} {t : Int} {r : Rl} {i : Int} (hs : x.set = 0) (hk : (latest springs x.std t).1 = i) (h0 : 0 ≤ i) (hr : springs[i.toNat]? = some r) : offSv (euD k (-1) sOld) x t = r.sv ∧ offLe (euD k (-1) sOld) x t = r.le := by
  refine off_some ?_
  rw [offR_set (s := ⟨sEu, some ⟨k + 1, 0, none⟩, 2, 2, springs⟩) (by omega) (by rw [hs]; rfl)]
  unfold offRl
  have : offK springs x.std t = i := by unfold offK; rw [hk, if_pos h0]
  rw [this, if_neg (by omega)]
  exact hr
theorem eu_a (k : Nat) : oaE (euD k (-1) sOld) sTown 1585443600 = 0 ∧ oaTo (euD k (-1) sOld) sTown 1585443600 = 7200 ∧ oaSv (euD k (-1) sOld) sTown 1585443600 = 3600 ∧ oaAb (euD k (-1) sOld) sTown 1585443600 = sCEDT := by
  obtain ⟨h0, h1, h2, h3⟩ := oa_of (eu_lead (k := k) (nm := sTown) (v := 0) (by kernel_rfl) (by omega)) (t := 1585443600) (by omega) (z := ⟨sOld, some ⟨k + 3, 0, none⟩, 2, 2, [⟨1800, -1, 0, sLMT, 500000000⟩, ⟨3600, 0, 0, sCEsT, 1893456000⟩]⟩) rfl (x := ⟨3600, 0, 0, sCEsT, 1893456000⟩) (by kernel_rfl)
  obtain ⟨q1, q2⟩ := eu_set (k := k) (x := ⟨3600, 0, 0, sCEsT, 1893456000⟩) (t := 1585443600) (r := sA) (i := 0) rfl (by rw [show (latest springs 3600 1585443600) = _ from spring_one]) (by omega) rfl
  refine ⟨h0, ?_, by rw [h2, q1]; rfl, ?_⟩
  · rw [h1]; unfold offTo; rw [q1]; rfl
  · rw [h3]; unfold offAb; rw [q2]; kernel_rfl
theorem eu_b (k : Nat) : oaE (euD k (-1) sOld) sTt 1585443599 = 0 ∧ oaTo (euD k (-1) sOld) sTt 1585443599 = 3600 ∧ oaSv (euD k (-1) sOld) sTt 1585443599 = 0 ∧ oaAb (euD k (-1) sOld) sTt 1585443599 = sCEST := by
  obtain ⟨h0, h1, h2, h3⟩ := oa_of (eu_lead (k := k) (nm := sTt) (v := 0) (by kernel_rfl) (by omega)) (t := 1585443599) (by omega) (z := ⟨sOld, some ⟨k + 3, 0, none⟩, 2, 2, [⟨1800, -1, 0, sLMT, 500000000⟩, ⟨3600, 0, 0, sCEsT, 1893456000⟩]⟩) rfl (x := ⟨3600, 0, 0, sCEsT, 1893456000⟩) (by kernel_rfl)
  obtain ⟨q1, q2⟩ := eu_set (k := k) (x := ⟨3600, 0, 0, sCEsT, 1893456000⟩) (t := 1585443599) (r := sB) (i := 1) rfl (by rw [show (latest springs 3600 1585443599) = _ from spring_two]) (by omega) rfl
  refine ⟨h0, ?_, by rw [h2, q1]; rfl, ?_⟩
  · rw [h1]; unfold offTo; rw [q1]; rfl
  · rw [h3]; unfold offAb; rw [q2]; kernel_rfl
theorem eu_c (k : Nat) : oaE (euD k (-1) sOld) sOld 7 = 0 ∧ oaTo (euD k (-1) sOld) sOld 7 = 1800 ∧ oaSv (euD k (-1) sOld) sOld 7 = 0 ∧ oaAb (euD k (-1) sOld) sOld 7 = sLMT := by
  obtain ⟨h0, h1, h2, h3⟩ := oa_of (eu_lead (k := k) (nm := sOld) (v := 0) (by kernel_rfl) (by omega)) (t := 7) (by omega) (z := ⟨sOld, some ⟨k + 3, 0, none⟩, 2, 2, [⟨1800, -1, 0, sLMT, 500000000⟩, ⟨3600, 0, 0, sCEsT, 1893456000⟩]⟩) rfl (x := ⟨1800, -1, 0, sLMT, 500000000⟩) (by kernel_rfl)
  obtain ⟨q1, q2⟩ := off_none (offR_none (d := euD k (-1) sOld) (x := ⟨1800, -1, 0, sLMT, 500000000⟩) (t := 7) (by decide))
  refine ⟨h0, ?_, by rw [h2, q1], ?_⟩
  · rw [h1]; unfold offTo; rw [q1]; rfl
  · rw [h3]; unfold offAb; rw [q2]; kernel_rfl
theorem eu_d (k : Nat) : oaE (euD k (-1) sOld) sAW 7 = 0 ∧ oaTo (euD k (-1) sOld) sAW 7 = -14400 ∧ oaSv (euD k (-1) sOld) sAW 7 = 3600 ∧ oaAb (euD k (-1) sOld) sAW 7 = sXT := by
  obtain ⟨h0, h1, h2, h3⟩ := oa_of (eu_lead (k := k) (nm := sAW) (v := 1) (by kernel_rfl) (by omega)) (t := 7) (by omega) (z := ⟨sAW, some ⟨k + 4, 0, none⟩, 1, 1, [⟨-18000, -1, 3600, sXT, 1893456000⟩]⟩) rfl (x := ⟨-18000, -1, 3600, sXT, 1893456000⟩) (by kernel_rfl)
  obtain ⟨q1, q2⟩ := off_none (offR_none (d := euD k (-1) sOld) (x := ⟨-18000, -1, 3600, sXT, 1893456000⟩) (t := 7) (by decide))
  refine ⟨h0, ?_, by rw [h2, q1], ?_⟩
  · rw [h1]; unfold offTo; rw [q1]; rfl
  · rw [h3]; unfold offAb; rw [q2]; kernel_rfl
end Gno
end
/-! Plain: what holds is bounded; a link has what its zone has. -/
section
set_option linter.unusedVariables false
set_option linter.unusedSimpArgs false
namespace Gno
open Go
theorem repl_size {s le : ByteArray} (hs : s.size ≤ 12) (hl : le.size ≤ 12) : (repl s le).size ≤ 24 := by
  unfold repl
  split
  · omega
  · rcases mark_cases s with q | ⟨i, q, hi⟩
    · omega
    · rw [q]
      simp only [ByteArray.size_append, ByteArray.size_extract, Int.toNat_natCast]
      omega
theorem offR_mem {d : Dt} {x : Er} {t : Int} {r : Rl} (h : offR d x t = some r) : ∃ s ∈ d.ss, r ∈ s.rs := by
  unfold offR at h
  split at h
  · cases h
  · cases hs : d.ss[x.set.toNat]? with
    | none => rw [hs] at h; cases h
    | some s => rw [hs] at h; exact ⟨s, List.mem_of_getElem? hs, offRl_mem h⟩
theorem off_bd {d : Dt} (hr : RightE d) {x : Er} (hx : 0 ≤ x.save ∧ x.save ≤ 7200) (t : Int) : (0 ≤ offSv d x t ∧ offSv d x t ≤ 7200) ∧ (offLe d x t).size ≤ 12 := by
  cases h : offR d x t with
  | none =>
    rw [(off_none h).1, (off_none h).2]
    exact ⟨hx, by decide⟩
  | some r =>
    obtain ⟨s, hs, hm⟩ := offR_mem h
    obtain ⟨hb, _, hl, _⟩ := ruleE_zero (hr.rules s hs r hm)
    obtain ⟨_, _, _, _, _, hv1, hv2⟩ := (ruleBasic_iff _ _ _ _ _).1 hb
    rw [(off_some h).1, (off_some h).2]
    unfold letOk at hl
    simp at hl
    exact ⟨⟨hv1, hv2⟩, hl.1⟩
structure OkAt (d : Dt) (nm : ByteArray) (t : Int) (z : Zn) (x : Er) : Prop where
  data : dataE d = 0
  zone : zoneEr d nm = 0
  le : 0 ≤ zoneK d nm
  lt : zoneK d nm < d.zs.length
  time : 0 ≤ t ∧ t < 1893456000
  hz : d.zs[(zoneK d nm).toNat]? = some z
  hx : ∃ i : Nat, z.es[i]? = some x ∧ i < z.es.length
  era : eraOf z t = x
  tot : oaTo d nm t = offTo d x t
  sv : oaSv d nm t = offSv d x t
  ab : oaAb d nm t = offAb d x t
  again : oaE d z.name t = 0 ∧ oaTo d z.name t = oaTo d nm t ∧ oaSv d z.name t = oaSv d nm t ∧ oaAb d z.name t = oaAb d nm t
  bd : (-50400 ≤ x.std ∧ x.std ≤ 50400) ∧ (0 ≤ offSv d x t ∧ offSv d x t ≤ 7200) ∧ (offAb d x t).size ≤ 24
theorem okAt_of {d : Dt} {nm : ByteArray} {t : Int} (hE : oaE d nm t = 0) : ∃ z x, OkAt d nm t z x := by
  have he : zoneEr d nm = 0 := by
    unfold oaE at hE
    split at hE
    · rename_i q; exact absurd hE q
    · rename_i q; exact Classical.not_not.1 q
  have ht : ¬ (t < 0 ∨ 1893456000 ≤ t) := by
    unfold oaE at hE
    rw [if_neg (by simp [he])] at hE
    intro q
    rw [if_pos q] at hE
    exact absurd hE (by decide)
  have hd0 : dataE d = 0 := by
    unfold zoneEr at he
    split at he
    · rename_i q; exact absurd he q
    · rename_i q; exact Classical.not_not.1 q
  have hle : ¬ leadN d nm < 0 := by
    intro q
    have := (zone_none (nm := nm) hd0 q).2
    rw [he] at this; cases this
  have hzk := (zone_is (nm := nm) hd0 hle).1
  have hlr : leadN d nm < d.zs.length := (leadT_range d (d.ls.length + 1) nm).2
  have hzq := List.getElem?_eq_getElem (l := d.zs) (i := (zoneK d nm).toNat) (by omega)
  obtain ⟨z, hzz⟩ : ∃ z, z = d.zs[(zoneK d nm).toNat]'(by omega) := ⟨_, rfl⟩
  rw [← hzz] at hzq
  have hr := rightE_of hd0
  have hzm := List.mem_of_getElem? hzq
  obtain ⟨x, hx, hxm, hk0, hk1, hxt⟩ := hr.era hzm (t := t) (by omega)
  have hx1 := eraOk_is (hr.eras z hzm _ x hx)
  obtain ⟨g1, g2, g3⟩ := at_good hE hzq
  rw [eraOf_is hx] at g1 g2 g3
  have hb := off_bd hr hx1.2.2.1 t
  have hln : leadN d z.name = ((zoneK d nm).toNat : Int) := hr.toRight.leadZone hzq
  have hz2 := zone_is (nm := z.name) hd0 (by omega)
  have hE2 : oaE d z.name t = 0 := by unfold oaE; rw [if_neg (by simp [hz2.2]), if_neg ht]
  obtain ⟨f1, f2, f3⟩ := at_good (nm := z.name) (t := t) hE2 (z := z) (by rw [hz2.1, hln, Int.toNat_natCast]; exact hzq)
  rw [eraOf_is hx] at f1 f2 f3
  have hf := hr.fmts z hzm x hxm
  have hf12 : x.fmt.size ≤ 12 := by
    unfold fmtOk at hf
    simp at hf
    omega
  exact ⟨z, x, { data := hd0, zone := he, le := by omega, lt := by omega, time := by omega, hz := hzq, hx := ⟨_, hx, (List.getElem?_eq_some_iff.1 hx).1⟩, era := eraOf_is hx, tot := g1, sv := g2, ab := g3, again := ⟨hE2, by rw [f1, g1], by rw [f2, g2], by rw [f3, g3]⟩, bd := ⟨hx1.1, hb.1, repl_size hf12 hb.2⟩ }⟩
end Gno
end
/-! The walk of the reference's holds. -/
section
set_option linter.unusedVariables false
set_option linter.unusedSimpArgs false
namespace Go.Proofs.YtbbbeldbhlehnaaGreatDoor
open Go.RowKit Gno
theorem le12 {r : Rl} (hre : r.e = 0) : r.le.size ≤ 12 := by
  obtain ⟨_, _, hlet, _⟩ := ruleE_zero hre
  unfold letOk at hlet
  simp at hlet
  omega
set_option maxRecDepth 100000 in
set_option maxHeartbeats 4000000 in
theorem holdsRef_any (d : Dt) (zone t : Int) (z : Zn) (w : World) (hD : DataAt w w.heap.size d) (hM : MaxAt w w.heap.size) (hr : RightE d) (hz : d.zs[zone.toNat]? = some z) (hz0 : 0 ≤ zone) (ht : t < 1893456000) :
    Calls Tryz.prog 76 #[d.val, .int .i64 zone, .int .i64 t] w fun e w' => e = .returned (.agg #[.int .i64 (offTo d (eraOf z t) t), .int .i64 (offSv d (eraOf z t) t), .string (offAb d (eraOf z t) t)]) ∧ Below w.heap.size w w' := by
  obtain ⟨x, hx, hxm, hk0, hk1, hxt⟩ := hr.era (List.mem_of_getElem? hz) ht
  rw [eraOf_is hx]
  have hxo := eraOk_is (hr.eras z (List.mem_of_getElem? hz) _ x hx)
  have hfo := hr.fmts z (List.mem_of_getElem? hz) x hxm
  have hf12 : x.fmt.size ≤ 12 := by
    unfold fmtOk at hfo
    simp at hfo
    omega
  have hzl := (List.getElem?_eq_some_iff.1 hz).1
  have hzn := hD.2.1.1
  obtain ⟨b, o, q, hA, hbB, hq, hq1, hq2⟩ := zones_get hD.2.1 (i := zone.toNat) (by omega)
  rw [hz] at hq
  injection hq with hq
  subst hq
  obtain ⟨qn, A2, n2, cap2, es2⟩ := z
  replace hk0 : 0 ≤ eraK es2 t := hk0
  replace hk1 : eraK es2 t < es2.length := hk1
  have hE := (hq2 w (Below.refl _ _)).2
  have hEl : es2.length = n2 := hE.1
  have hkn : (eraK es2 t).toNat < n2 := hEl ▸ (Int.toNat_lt hk0).2 hk1
  obtain ⟨b2, o2, x', hA2, hb2, hx', hxf', hxc⟩ := eras_get hE (i := (eraK es2 t).toNat) hkn
  rw [show es2[(eraK es2 t).toNat]? = some x from hx] at hx'
  injection hx' with hx'
  subst hx'
  have hA2' : A2 = some ⟨b2, o2, none⟩ := hA2
  clear hA2
  subst hA2'
  have HN := Lib.hid (fun W hb => at_next (d := d) (w := w) (W := W) hD hM hb)
  have HC : Hid (∀ W, Below (w.heap.size + 2) ((w.alloc (.cells #[.slice d.sA d.sn d.sc, .slice d.zA d.zn d.zc, .slice d.lA d.ln d.lc] 26)).alloc (.cells #[.int .i64 0, .int .i64 0, .string ⟨#[]⟩] 46)) W → W.cell? ⟨w.heap.size, 0, none⟩ = some (.slice d.sA d.sn d.sc) ∧ W.cell? ⟨w.heap.size, 1, none⟩ = some (.slice (some ⟨b, o, none⟩) d.zn d.zc) ∧ W.cell? ⟨b, o + zone.toNat * 2 + 1, none⟩ = some (.slice (some ⟨b2, o2, none⟩) n2 cap2)) := Lib.hid (fun W h => by
    have h1 := HN.out W h
    exact ⟨h1.2.2.2.1.1, hA ▸ h1.2.2.2.1.2.1, (hq2 W h1.1).1.2⟩)
  have HX : Hid (∀ W, Below (w.heap.size + 2) ((w.alloc (.cells #[.slice d.sA d.sn d.sc, .slice d.zA d.zn d.zc, .slice d.lA d.ln d.lc] 26)).alloc (.cells #[.int .i64 0, .int .i64 0, .string ⟨#[]⟩] 46)) W → ErAt W b2 (o2 + (eraK es2 t).toNat * 5) x) := Lib.hid (fun W h => hxc W (HN.out W h).1)
  have HER : Hid (∀ j, j < n2 → ∃ y, es2[j]? = some y ∧ ∀ W, Below (w.heap.size + 2) ((w.alloc (.cells #[.slice d.sA d.sn d.sc, .slice d.zA d.zn d.zc, .slice d.lA d.ln d.lc] 26)).alloc (.cells #[.int .i64 0, .int .i64 0, .string ⟨#[]⟩] 46)) W → W.cell? ⟨b2, o2 + j * 5 + 4, none⟩ = some (.int .i64 y.til)) := Lib.hid (fun j hj => by
    obtain ⟨b3, o3, y, hA3, _, hy, _, hc⟩ := eras_get hE hj
    injection hA3 with hA3
    injection hA3 with e1 e2 _
    subst e1
    subst e2
    exact ⟨y, hy, fun W h => (hc W (HN.out W h).1).2.2.2.2⟩)
  have HDR := Lib.hid hr.rules
  have HSET : Hid (¬ x.set < 0 → ∃ b5 o5 s, d.sA = some ⟨b5, o5, none⟩ ∧ d.ss[x.set.toNat]? = some s ∧ x.set < d.sn ∧ ∀ W, Below (w.heap.size + 2) ((w.alloc (.cells #[.slice d.sA d.sn d.sc, .slice d.zA d.zn d.zc, .slice d.lA d.ln d.lc] 26)).alloc (.cells #[.int .i64 0, .int .i64 0, .string ⟨#[]⟩] 46)) W → W.cell? ⟨b5, o5 + x.set.toNat * 2 + 1, none⟩ = some (.slice s.A s.n s.cap) ∧ RulesAt W W.heap.size s.A s.n s.rs) := Lib.hid (fun hs => by
    have := hxo.2.1
    obtain ⟨b5, o5, s, e1, e2, e3, e4, e5⟩ := sets_get hD.1 (i := x.set.toNat) (by omega)
    exact ⟨b5, o5, s, e1, e3, this.2, fun W h => by
      have h1 := (HN.out W h).1
      exact ⟨(e5 W h1).1.2, ((e5 W h1).2).more (by have := h1.size; omega)⟩⟩)
  have MKC := Lib.hid (fun W => mark_any x.fmt W (by omega))
  have hn2 : n2 ≤ 9223372036854775807 := hE.2.1
  have HK : Hid (fst (til t) (es2.drop 0) ((0 : Nat) : Int) = eraK es2 t) := Lib.hid (by rw [List.drop_zero]; rfl)
  obtain ⟨KI, hK⟩ : ∃ v, v = eraK es2 t := ⟨_, rfl⟩
  obtain ⟨K, hKN⟩ : ∃ v : Nat, (v : Int) = KI := ⟨KI.toNat, by omega⟩
  rw [← hK] at hk0 hk1 HX HK
  subst hKN
  replace HX : Hid (∀ W, Below (w.heap.size + 2) ((w.alloc (.cells #[.slice d.sA d.sn d.sc, .slice d.zA d.zn d.zc, .slice d.lA d.ln d.lc] 26)).alloc (.cells #[.int .i64 0, .int .i64 0, .string ⟨#[]⟩] 46)) W → ErAt W b2 (o2 + K * 5) x) := by simpa using HX
  have HL := Lib.hid hEl
  have hzb : zone < (d.zn : Int) := by omega
  have hkb : K < n2 := by omega
  obtain ⟨⟨s1, s2⟩, ⟨s3, s4⟩, ⟨s5, s6⟩, s7, _⟩ := hxo
  have hxx : x.set < 0 ∨ x.save = 0 := s7
  have HXX := Lib.hid hxx
  have gx : decide (x.til ≤ t) = false := by simp; omega
  clear hxx s7 hD hM hr hz hx hxm hfo hzl hzn hA hbB hq1 hq2 hE hEl hb2 hxf' hxc ht hkn hK hk0 hk1 hxt s3
  unfold Dt.val
  have hbb : Below (w.heap.size + 2) ((w.alloc (.cells #[.slice d.sA d.sn d.sc, .slice d.zA d.zn d.zc, .slice d.lA d.ln d.lc] 26)).alloc (.cells #[.int .i64 0, .int .i64 0, .string ⟨#[]⟩] 46)) ((w.alloc (.cells #[.slice d.sA d.sn d.sc, .slice d.zA d.zn d.zc, .slice d.lA d.ln d.lc] 26)).alloc (.cells #[.int .i64 0, .int .i64 0, .string ⟨#[]⟩] 46)) := Below.refl _ _
  obtain ⟨c0, c1, c2⟩ := HC.out _ hbb
  go_enter Tryz.func76, Tryz.ntmps76
  go_wp2_with fail
  go_loopw [8] (fun b8 wr => ∃ j : Nat, j ≤ K ∧ b8 = .int .i64 j ∧ Hid (fst (til t) (es2.drop j) (j : Int) = K) ∧ Hid (Below (w.heap.size + 2) ((w.alloc (.cells #[.slice d.sA d.sn d.sc, .slice d.zA d.zn d.zc, .slice d.lA d.ln d.lc] 26)).alloc (.cells #[.int .i64 0, .int .i64 0, .string ⟨#[]⟩] 46)) wr)) (fun b8 _ => n2 - (intOf b8).toNat)
  case atStart => exact ⟨0, Nat.zero_le _, rfl, HK, Lib.hid hbb⟩
  case round =>
    clear c0 c1 c2 hbb
    obtain ⟨j, hj, rfl, hfj, hb⟩ := hrel
    have hjn : j < n2 := by omega
    obtain ⟨y, hy, hyc⟩ := HER.out j hjn
    have e0 := hyc _ hb.out
    have HD := Lib.hid (fst_drop (p := til t) hy)
    have HY := Lib.hid hy
    clear hyc hy
    by_cases hq : y.til ≤ t
    · have g1 : decide (y.til ≤ t) = true := by simpa using hq
      have HJ : Hid (fst (til t) (es2.drop (j + 1)) ((j + 1 : Nat) : Int) = K) := Lib.hid (by rw [← HD.out.2 (by unfold til; simp; omega)]; exact hfj.out)
      have hjk : j + 1 ≤ K := by
        rcases fst_range (til t) (es2.drop (j + 1)) ((j + 1 : Nat) : Int) (by omega) with e | e
        · rw [HJ.out] at e; omega
        · rw [HJ.out] at e; omega
      clear hfj hq
      go_wp2
      go_roundw
      case rel => exact ⟨j + 1, hjk, by go_num, HJ, hb⟩
      case measure => simp [intOf]; omega
    · have g1 : decide (y.til ≤ t) = false := by simpa using hq
      have hjK : j = K := by
        have := HD.out.1 (by unfold til; simp; omega)
        rw [hfj.out] at this
        omega
      subst hjK
      clear hq hfj HD HY HER HK g1
      obtain ⟨wo, hwo⟩ : ∃ wo : World, wo = wr := ⟨_, rfl⟩
      rw [← hwo] at hb e0
      rw [← hwo]
      clear hwo
      obtain ⟨x0, x1, x2, x3, x4⟩ := HX.out _ hb.out
      clear e0
      have HP : Hid (∀ W, Below (wo.alloc (.cells #[.int .i64 x.std, .int .i64 x.set, .int .i64 x.save, .string x.fmt, .int .i64 x.til] 125)).heap.size (wo.alloc (.cells #[.int .i64 x.std, .int .i64 x.set, .int .i64 x.save, .string x.fmt, .int .i64 x.til] 125)) W → Below (w.heap.size + 2) ((w.alloc (.cells #[.slice d.sA d.sn d.sc, .slice d.zA d.zn d.zc, .slice d.lA d.ln d.lc] 26)).alloc (.cells #[.int .i64 0, .int .i64 0, .string ⟨#[]⟩] 46)) W ∧ (W.cell? ⟨wo.heap.size, 0, none⟩ = some (.int .i64 x.std) ∧ W.cell? ⟨wo.heap.size, 1, none⟩ = some (.int .i64 x.set) ∧ W.cell? ⟨wo.heap.size, 2, none⟩ = some (.int .i64 x.save) ∧ W.cell? ⟨wo.heap.size, 3, none⟩ = some (.string x.fmt)) ∧ (W.cell? ⟨w.heap.size + 1, 0, none⟩ = some (.int .i64 0) ∧ W.cell? ⟨w.heap.size + 1, 1, none⟩ = some (.int .i64 0) ∧ W.cell? ⟨w.heap.size + 1, 2, none⟩ = some (.string ⟨#[]⟩) ∧ W.frozen? ⟨w.heap.size + 1, 0, none⟩ = false ∧ W.frozen? ⟨w.heap.size + 1, 1, none⟩ = false ∧ W.frozen? ⟨w.heap.size + 1, 2, none⟩ = false) ∧ W.heap[w.heap.size + 1]? = some (.cells #[.int .i64 0, .int .i64 0, .string ⟨#[]⟩] 46) ∧ Below w.heap.size w W) := Lib.hid (fun W h => by
        have k := (h.block wo.heap.size (by simp)).trans (World.alloc_heap_new wo (.cells #[.int .i64 x.std, .int .i64 x.set, .int .i64 x.save, .string x.fmt, .int .i64 x.til] 125))
        have hz : Below (w.heap.size + 2) ((w.alloc (.cells #[.slice d.sA d.sn d.sc, .slice d.zA d.zn d.zc, .slice d.lA d.ln d.lc] 26)).alloc (.cells #[.int .i64 0, .int .i64 0, .string ⟨#[]⟩] 46)) (wo.alloc (.cells #[.int .i64 x.std, .int .i64 x.set, .int .i64 x.save, .string x.fmt, .int .i64 x.til] 125)) := Below.alloc hb.out (by have := hb.out.size; simpa using this) _
        have h0 : Below (w.heap.size + 2) ((w.alloc (.cells #[.slice d.sA d.sn d.sc, .slice d.zA d.zn d.zc, .slice d.lA d.ln d.lc] 26)).alloc (.cells #[.int .i64 0, .int .i64 0, .string ⟨#[]⟩] 46)) W := hz.trans (h.mono (by have := hz.size; simpa using this))
        have hN := HN.out W h0
        exact ⟨h0, ⟨cell_of k rfl, cell_of k rfl, cell_of k rfl, cell_of k rfl⟩, hN.2.2.2.2.1, hN.2.2.2.2.2, hN.1⟩)
      have hxx := HXX.out
      by_cases hs : x.set < 0
      · have HO := Lib.hid (off_none (offR_none (d := d) (t := t) hs))
        have gs : decide ((0 : Int) ≤ x.set) = false := by simp; omega
        have hwr : IntKind.i64.wrap (x.std + x.save) = x.std + x.save := wrap_small (by omega) (by omega)
        go_wp2_with fail
        have HH : Hid (Below (wo.alloc (.cells #[.int .i64 x.std, .int .i64 x.set, .int .i64 x.save, .string x.fmt, .int .i64 x.til] 125)).heap.size (wo.alloc (.cells #[.int .i64 x.std, .int .i64 x.set, .int .i64 x.save, .string x.fmt, .int .i64 x.til] 125)) (wo.alloc (.cells #[.int .i64 x.std, .int .i64 x.set, .int .i64 x.save, .string x.fmt, .int .i64 x.til] 125))) := Lib.hid (Below.refl _ _)
        refine (MKC.out _).mono ?_
        rintro e w8 ⟨rfl, h8⟩
        try clear q0 q1 q2 q3
        have h9 := HH.out.trans (h8.mono HH.out.size)
        obtain ⟨_, ⟨q0, q1, q2, q3⟩, _⟩ := HP.out _ h9
        have HW8 := Lib.hid h9
        clear h9 h8 HH
        rcases mark_cases x.fmt with hk | ⟨i, hk, hi⟩
        · have HR : Hid (repl x.fmt ⟨#[]⟩ = x.fmt) := Lib.hid (by unfold repl; rw [hk]; rfl)
          have gm : decide ((0 : Int) ≤ markN x.fmt) = false := by rw [hk]; rfl
          obtain ⟨MM, hMM⟩ : ∃ v, v = markN x.fmt := ⟨_, rfl⟩
          rw [← hMM] at gm
          rw [← hMM]
          clear hMM hk
          obtain ⟨_, _, ⟨r0, r1, r2, f0, f1, f2⟩, _⟩ := HP.out _ HW8.out
          go_wp2
          obtain ⟨_, _, _, k2, hbw⟩ := HP.out _ HW8.out
          refine bodyPost_ret (results_cell_row rfl _ _ (w.heap.size + 1) 46 _ (0, 0) _ rfl (set_obj (set_obj (set_obj k2 _) _) _) Tryz.underlying46 rfl (by kernel_rfl)) rfl ⟨?_, ((hbw.setCell (by simp) _).setCell (by simp) _).setCell (by simp) _⟩
          have e1 : offTo d x t = x.std + x.save := by unfold offTo; rw [HO.out.1]
          have e2 : offAb d x t = x.fmt := by unfold offAb; rw [HO.out.2, HR.out]
          rw [e1, e2, HO.out.1]
          rfl
        · have HR : Hid (repl x.fmt ⟨#[]⟩ = x.fmt.extract 0 i ++ ⟨#[]⟩ ++ x.fmt.extract (i + 2) x.fmt.size) := Lib.hid (by
            unfold repl; rw [hk, if_neg (by omega), Int.toNat_natCast])
          rw [hk]
          clear hk
          have hq1 : (x.fmt.extract 0 i).size + (⟨#[]⟩ : ByteArray).size ≤ 9223372036854775807 := by have hnil : (⟨#[]⟩ : ByteArray).size = 0 := rfl; simp only [ByteArray.size_extract]; omega
          have hq2 : (x.fmt.extract 0 i ++ ⟨#[]⟩).size + (x.fmt.extract (i + 2) x.fmt.size).size ≤ 9223372036854775807 := by have hnil : (⟨#[]⟩ : ByteArray).size = 0 := rfl; simp only [ByteArray.size_append, ByteArray.size_extract]; omega
          go_wp2_with fail
          go_region
          obtain ⟨_, ⟨q0, q1, q2, q3⟩, ⟨r0, r1, r2, f0, f1, f2⟩, _⟩ := HP.out _ HW8.out.drew
          go_wp2
          obtain ⟨_, _, _, k2, hbw⟩ := HP.out _ HW8.out.drew
          refine bodyPost_ret (results_cell_row rfl _ _ (w.heap.size + 1) 46 _ (0, 0) _ rfl (set_obj (set_obj (set_obj k2 _) _) _) Tryz.underlying46 rfl (by kernel_rfl)) rfl ⟨?_, ((hbw.setCell (by simp) _).setCell (by simp) _).setCell (by simp) _⟩
          have e1 : offTo d x t = x.std + x.save := by unfold offTo; rw [HO.out.1]
          have e2 : offAb d x t = x.fmt.extract 0 i ++ ⟨#[]⟩ ++ x.fmt.extract (i + 2) x.fmt.size := by unfold offAb; rw [HO.out.2, HR.out]
          rw [e1, e2, HO.out.1]
          rfl
      · have gs : decide ((0 : Int) ≤ x.set) = true := by simp; omega
        obtain ⟨b5, o5, ⟨qn5, A6, n6, cap6, rs6⟩, hA5, hs5, hsb, hsc⟩ := HSET.out (by omega)
        have HRS : Hid (∀ W, Below (w.heap.size + 2) ((w.alloc (.cells #[.slice d.sA d.sn d.sc, .slice d.zA d.zn d.zc, .slice d.lA d.ln d.lc] 26)).alloc (.cells #[.int .i64 0, .int .i64 0, .string ⟨#[]⟩] 46)) W → RulesAt W W.heap.size A6 n6 rs6) := Lib.hid (fun W h => (hsc W h).2)
        have hl6 : rs6.length = n6 := (HRS.out _ hb.out).1
        have hn6 : n6 ≤ 9223372036854775807 := (HRS.out _ hb.out).2.1
        have HRE : Hid (∀ r ∈ rs6, r.e = 0) := Lib.hid (HDR.out _ (List.mem_of_getElem? hs5))
        have hs0 : 0 ≤ x.set := by omega
        have LAC : Hid (∀ W, Below (w.heap.size + 2) ((w.alloc (.cells #[.slice d.sA d.sn d.sc, .slice d.zA d.zn d.zc, .slice d.lA d.ln d.lc] 26)).alloc (.cells #[.int .i64 0, .int .i64 0, .string ⟨#[]⟩] 46)) W → Calls Tryz.prog 153 #[.slice A6 n6 cap6, .int .i64 x.std, .int .i64 t] W fun e w' => e = .returned (.tuple #[.int .i64 (lastR (latest rs6 x.std t)), .int .i64 (lastW (latest rs6 x.std t)), .bool (lastB (latest rs6 x.std t))]) ∧ Below W.heap.size W w') := Lib.hid (fun W h => last_any A6 n6 cap6 rs6 x.std t W (HRS.out W h) HRE.out s1 s2)
        have HV1 : Hid (Below (w.heap.size + 2) ((w.alloc (.cells #[.slice d.sA d.sn d.sc, .slice d.zA d.zn d.zc, .slice d.lA d.ln d.lc] 26)).alloc (.cells #[.int .i64 0, .int .i64 0, .string ⟨#[]⟩] 46)) (wo.alloc (.cells #[.int .i64 x.std, .int .i64 x.set, .int .i64 x.save, .string x.fmt, .int .i64 x.til] 125))) := Lib.hid (HP.out _ (Below.refl _ _)).1
        have g5 := (hsc _ HV1.out).1
        obtain ⟨c0, c1, c2⟩ := HC.out _ HV1.out
        rw [hA5] at c0
        cases hlb : lastB (latest rs6 x.std t)
        · have HO := Lib.hid (off_none_begun hs hs5 hlb (by omega))
          have hwr : IntKind.i64.wrap (x.std + x.save) = x.std + x.save := wrap_small (by omega) (by omega)
          rw [hlb] at LAC
          obtain ⟨LR, hLR⟩ : ∃ v, v = lastR (latest rs6 x.std t) := ⟨_, rfl⟩
          obtain ⟨LW, hLW⟩ : ∃ v, v = lastW (latest rs6 x.std t) := ⟨_, rfl⟩
          rw [← hLR, ← hLW] at LAC
          clear hLR hLW hlb hs5 hsc hA5
          go_wp2_with fail
          clear x0 x1 x2 x3 x4 c0 c1 c2 g5
          refine (LAC.out _ HV1.out).mono ?_
          rintro e w6 ⟨rfl, h6⟩
          have H6 := Lib.hid h6
          obtain ⟨_, ⟨q0, q1, q2, q3⟩, _⟩ := HP.out _ h6
          clear h6
          go_wp2_with fail
          go_loopw [11, 16] (fun b11 b16 wr => ∃ (i : Int) (L : ByteArray), -1 ≤ i ∧ i < n6 ∧ b16 = .int .i64 i ∧ b11 = .string L ∧ L.size ≤ 12 ∧ Hid (L = leL (rs6.drop (i + 1).toNat)) ∧ Hid (Below (wo.alloc (.cells #[.int .i64 x.std, .int .i64 x.set, .int .i64 x.save, .string x.fmt, .int .i64 x.til] 125)).heap.size (wo.alloc (.cells #[.int .i64 x.std, .int .i64 x.set, .int .i64 x.save, .string x.fmt, .int .i64 x.til] 125)) wr)) (fun _ b16 _ => (intOf b16 + 1).toNat)
          case atStart => exact ⟨(n6 : Int) - 1, ⟨#[]⟩, by omega, by omega, by go_num, rfl, by decide, Lib.hid (by rw [leL_end]; omega), H6⟩
          case round =>
            clear q0 q1 q2 q3
            obtain ⟨i, L, hi1, hi2, rfl, rfl, hLs, hL, hbr⟩ := hrel
            by_cases hi0 : 0 ≤ i
            · obtain ⟨m, hm⟩ : ∃ m : Nat, (m : Int) = i := ⟨i.toNat, by omega⟩
              subst hm
              have hmn : m < n6 := by omega
              obtain ⟨b7, o7, r, hA7, _, hr7, _, hrc⟩ := RulesAt.get (HRS.out _ (HP.out _ hbr.out).1) (i := m) hmn
              obtain ⟨_, _, _, _, _, _, _, e7, e8⟩ := hrc _ (Below.refl _ _)
              have HLA := Lib.hid (leL_at hr7)
              have hr12 := le12 (HRE.out r (List.mem_of_getElem? hr7))
              subst hA7
              clear hrc hr7
              by_cases hq : r.sv = 0
              · have gq : (r.sv == 0) = true := by simpa using hq
                have HX2 : Hid (r.le = leL (rs6.drop ((m : Int) - 1 + 1).toNat)) := Lib.hid (by rw [show ((m : Int) - 1 + 1).toNat = m by omega]; exact (HLA.out.1 (by unfold noSave; exact gq)).symm)
                clear hq HLA hL
                go_wp2
                go_roundw
                case rel => exact ⟨(m : Int) - 1, r.le, by omega, by omega, by go_num, rfl, hr12, HX2, hbr⟩
                case measure => simp [intOf]
              · have gq : (r.sv == 0) = false := by simpa using hq
                have HX2 : Hid (L = leL (rs6.drop ((m : Int) - 1 + 1).toNat)) := Lib.hid (by rw [show ((m : Int) - 1 + 1).toNat = m by omega, (HLA.out.2 (by unfold noSave; exact gq)), hL.out]; congr 2)
                clear hq HLA hL
                go_wp2
                go_roundw
                case rel => exact ⟨(m : Int) - 1, L, by omega, by omega, by go_num, rfl, hLs, HX2, hbr⟩
                case measure => simp [intOf]
            · have hi3 : i = -1 := by omega
              subst hi3
              obtain ⟨_, ⟨q0, q1, q2, q3⟩, _⟩ := HP.out _ hbr.out
              have HO2 : Hid (offSv d x t = x.save ∧ offLe d x t = L) := Lib.hid ⟨HO.out.1, HO.out.2.trans (by rw [hL.out]; rfl)⟩
              clear HO
              have HO := HO2
              clear HO2 hL
              have HH := hbr
              go_wp2_with fail
              refine (MKC.out _).mono ?_
              rintro e w8 ⟨rfl, h8⟩
              try clear q0 q1 q2 q3
              have h9 := HH.out.trans (h8.mono HH.out.size)
              obtain ⟨_, ⟨q0, q1, q2, q3⟩, _⟩ := HP.out _ h9
              have HW8 := Lib.hid h9
              clear h9 h8 HH
              rcases mark_cases x.fmt with hk | ⟨i, hk, hi⟩
              · have HR : Hid (repl x.fmt L = x.fmt) := Lib.hid (by unfold repl; rw [hk]; rfl)
                have gm : decide ((0 : Int) ≤ markN x.fmt) = false := by rw [hk]; rfl
                obtain ⟨MM, hMM⟩ : ∃ v, v = markN x.fmt := ⟨_, rfl⟩
                rw [← hMM] at gm
                rw [← hMM]
                clear hMM hk
                obtain ⟨_, _, ⟨r0, r1, r2, f0, f1, f2⟩, _⟩ := HP.out _ HW8.out
                go_wp2
                obtain ⟨_, _, _, k2, hbw⟩ := HP.out _ HW8.out
                refine bodyPost_ret (results_cell_row rfl _ _ (w.heap.size + 1) 46 _ (0, 0) _ rfl (set_obj (set_obj (set_obj k2 _) _) _) Tryz.underlying46 rfl (by kernel_rfl)) rfl ⟨?_, ((hbw.setCell (by simp) _).setCell (by simp) _).setCell (by simp) _⟩
                have e1 : offTo d x t = x.std + x.save := by unfold offTo; rw [HO.out.1]
                have e2 : offAb d x t = x.fmt := by unfold offAb; rw [HO.out.2, HR.out]
                rw [e1, e2, HO.out.1]
                rfl
              · have HR : Hid (repl x.fmt L = x.fmt.extract 0 i ++ L ++ x.fmt.extract (i + 2) x.fmt.size) := Lib.hid (by
                  unfold repl; rw [hk, if_neg (by omega), Int.toNat_natCast])
                rw [hk]
                clear hk
                have hq1 : (x.fmt.extract 0 i).size + (L : ByteArray).size ≤ 9223372036854775807 := by have hnil : (⟨#[]⟩ : ByteArray).size = 0 := rfl; simp only [ByteArray.size_extract]; omega
                have hq2 : (x.fmt.extract 0 i ++ L).size + (x.fmt.extract (i + 2) x.fmt.size).size ≤ 9223372036854775807 := by have hnil : (⟨#[]⟩ : ByteArray).size = 0 := rfl; simp only [ByteArray.size_append, ByteArray.size_extract]; omega
                go_wp2_with fail
                go_region
                obtain ⟨_, ⟨q0, q1, q2, q3⟩, ⟨r0, r1, r2, f0, f1, f2⟩, _⟩ := HP.out _ HW8.out.drew
                go_wp2
                obtain ⟨_, _, _, k2, hbw⟩ := HP.out _ HW8.out.drew
                refine bodyPost_ret (results_cell_row rfl _ _ (w.heap.size + 1) 46 _ (0, 0) _ rfl (set_obj (set_obj (set_obj k2 _) _) _) Tryz.underlying46 rfl (by kernel_rfl)) rfl ⟨?_, ((hbw.setCell (by simp) _).setCell (by simp) _).setCell (by simp) _⟩
                have e1 : offTo d x t = x.std + x.save := by unfold offTo; rw [HO.out.1]
                have e2 : offAb d x t = x.fmt.extract 0 i ++ L ++ x.fmt.extract (i + 2) x.fmt.size := by unfold offAb; rw [HO.out.2, HR.out]
                rw [e1, e2, HO.out.1]
                rfl
        · obtain ⟨hr0, hr1, r, hrr, hsv, hle⟩ := off_begun hs hs5 hlb
          replace hr0 : 0 ≤ lastR (latest rs6 x.std t) := hr0
          replace hr1 : lastR (latest rs6 x.std t) < rs6.length := hr1
          replace hrr : rs6[(lastR (latest rs6 x.std t)).toNat]? = some r := hrr
          have HO := Lib.hid (And.intro hsv hle)
          have hre := HRE.out r (List.mem_of_getElem? hrr)
          have hr12 := le12 hre
          obtain ⟨hbas, _, hlet, _⟩ := ruleE_zero hre
          obtain ⟨_, _, _, _, _, hv1, hv2⟩ := (ruleBasic_iff _ _ _ _ _).1 hbas
          have hwr : IntKind.i64.wrap (x.std + r.sv) = x.std + r.sv := wrap_small (by omega) (by omega)
          rw [hlb] at LAC
          obtain ⟨b7, o7, r', hA7, _, hr7, _, hrc⟩ := RulesAt.get (HRS.out _ HV1.out) (i := (lastR (latest rs6 x.std t)).toNat) (by omega)
          rw [hrr] at hr7
          injection hr7 with hr7
          subst hr7
          obtain ⟨LR, hLR⟩ : ∃ v, v = lastR (latest rs6 x.std t) := ⟨_, rfl⟩
          obtain ⟨LW, hLW⟩ : ∃ v, v = lastW (latest rs6 x.std t) := ⟨_, rfl⟩
          rw [← hLR, ← hLW] at LAC
          rw [← hLR] at hr0 hr1 hrc
          have HRC := Lib.hid hrc
          subst hA7
          rw [hl6] at hr1
          clear hLR hLW hlb hs5 hsc hA5 hrr hsv hle hre hbas hlet hrc
          go_wp2_with fail
          clear x0 x1 x2 x3 x4 c0 c1 c2 g5
          refine (LAC.out _ HV1.out).mono ?_
          rintro e w6 ⟨rfl, h6⟩
          have H6 := Lib.hid h6
          obtain ⟨_, _, _, _, _, _, _, e7, e8⟩ := HRC.out _ h6
          clear h6
          go_wp2_with fail
          go_region
          go_wp2_with fail
          clear e7 e8
          go_loopw [11, 16] (fun b11 b16 wr => b16 = .int .i64 ((n6 : Int) - 1) ∧ b11 = .string r.le ∧ Hid (Below (wo.alloc (.cells #[.int .i64 x.std, .int .i64 x.set, .int .i64 x.save, .string x.fmt, .int .i64 x.til] 125)).heap.size (wo.alloc (.cells #[.int .i64 x.std, .int .i64 x.set, .int .i64 x.save, .string x.fmt, .int .i64 x.til] 125)) wr)) (fun _ _ _ => 0)
          case atStart => exact ⟨by go_num, rfl, Lib.hid H6.out.drew⟩
          case round =>
            obtain ⟨rfl, rfl, hbr⟩ := hrel
            obtain ⟨_, ⟨q0, q1, q2, q3⟩, _⟩ := HP.out _ hbr.out
            have HH := hbr
            by_cases hn0 : 0 ≤ (n6 : Int) - 1
            · have gn0 : decide ((0 : Int) ≤ (n6 : Int) - 1) = true := by simpa using hn0
              go_wp2_with fail
              refine (MKC.out _).mono ?_
              rintro e w8 ⟨rfl, h8⟩
              try clear q0 q1 q2 q3
              have h9 := HH.out.trans (h8.mono HH.out.size)
              obtain ⟨_, ⟨q0, q1, q2, q3⟩, _⟩ := HP.out _ h9
              have HW8 := Lib.hid h9
              clear h9 h8 HH
              rcases mark_cases x.fmt with hk | ⟨i, hk, hi⟩
              · have HR : Hid (repl x.fmt r.le = x.fmt) := Lib.hid (by unfold repl; rw [hk]; rfl)
                have gm : decide ((0 : Int) ≤ markN x.fmt) = false := by rw [hk]; rfl
                obtain ⟨MM, hMM⟩ : ∃ v, v = markN x.fmt := ⟨_, rfl⟩
                rw [← hMM] at gm
                rw [← hMM]
                clear hMM hk
                obtain ⟨_, _, ⟨r0, r1, r2, f0, f1, f2⟩, _⟩ := HP.out _ HW8.out
                go_wp2
                obtain ⟨_, _, _, k2, hbw⟩ := HP.out _ HW8.out
                refine bodyPost_ret (results_cell_row rfl _ _ (w.heap.size + 1) 46 _ (0, 0) _ rfl (set_obj (set_obj (set_obj k2 _) _) _) Tryz.underlying46 rfl (by kernel_rfl)) rfl ⟨?_, ((hbw.setCell (by simp) _).setCell (by simp) _).setCell (by simp) _⟩
                have e1 : offTo d x t = x.std + r.sv := by unfold offTo; rw [HO.out.1]
                have e2 : offAb d x t = x.fmt := by unfold offAb; rw [HO.out.2, HR.out]
                rw [e1, e2, HO.out.1]
                rfl
              · have HR : Hid (repl x.fmt r.le = x.fmt.extract 0 i ++ r.le ++ x.fmt.extract (i + 2) x.fmt.size) := Lib.hid (by
                  unfold repl; rw [hk, if_neg (by omega), Int.toNat_natCast])
                rw [hk]
                clear hk
                have hq1 : (x.fmt.extract 0 i).size + (r.le : ByteArray).size ≤ 9223372036854775807 := by have hnil : (⟨#[]⟩ : ByteArray).size = 0 := rfl; simp only [ByteArray.size_extract]; omega
                have hq2 : (x.fmt.extract 0 i ++ r.le).size + (x.fmt.extract (i + 2) x.fmt.size).size ≤ 9223372036854775807 := by have hnil : (⟨#[]⟩ : ByteArray).size = 0 := rfl; simp only [ByteArray.size_append, ByteArray.size_extract]; omega
                go_wp2_with fail
                go_region
                obtain ⟨_, ⟨q0, q1, q2, q3⟩, ⟨r0, r1, r2, f0, f1, f2⟩, _⟩ := HP.out _ HW8.out.drew
                go_wp2
                obtain ⟨_, _, _, k2, hbw⟩ := HP.out _ HW8.out.drew
                refine bodyPost_ret (results_cell_row rfl _ _ (w.heap.size + 1) 46 _ (0, 0) _ rfl (set_obj (set_obj (set_obj k2 _) _) _) Tryz.underlying46 rfl (by kernel_rfl)) rfl ⟨?_, ((hbw.setCell (by simp) _).setCell (by simp) _).setCell (by simp) _⟩
                have e1 : offTo d x t = x.std + r.sv := by unfold offTo; rw [HO.out.1]
                have e2 : offAb d x t = x.fmt.extract 0 i ++ r.le ++ x.fmt.extract (i + 2) x.fmt.size := by unfold offAb; rw [HO.out.2, HR.out]
                rw [e1, e2, HO.out.1]
                rfl
            · exfalso; omega
end Go.Proofs.YtbbbeldbhlehnaaGreatDoor
end
