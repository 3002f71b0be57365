/- The reference's OwnData. -/
import Derived.Test.YtbbbeldbhlehnaaGreatDoorQRwS
import Derived.Test.YtbbbeldbhlehnaaGreatDoorQRwZ
set_option linter.unusedSimpArgs false
set_option linter.unusedVariables false
set_option maxRecDepth 100000
namespace Go.Proofs.YtbbbeldbhlehnaaGreatDoor
open Go.RowKit Gno
theorem set3_obj {W : World} {X : Nat} {a b c : Value} {T : TypeId} {x y z : Value} (h : W.heap[X]? = some (.cells #[a, b, c] T)) :
 (((W.setCell ⟨X, 0, none⟩ x).setCell ⟨X, 1, none⟩ y).setCell ⟨X, 2, none⟩ z).heap[X]? = some (.cells #[x, y, z] T) := by
 have h1 := (set_obj (o := 0) h x).trans (b := some (Obj.cells #[x, b, c] T)) rfl
 have h2 := (set_obj (o := 1) h1 y).trans (b := some (Obj.cells #[x, y, c] T)) rfl
 exact (set_obj (o := 2) h2 z).trans rfl
theorem grown_set3 (W : World) (X : Nat) (x y z : Value) : W.grownBy (((W.setCell ⟨X, 0, none⟩ x).setCell ⟨X, 1, none⟩ y).setCell ⟨X, 2, none⟩ z) (some X) :=
 ((grown_set W X 0 x).trans (grown_set _ X 1 y)).trans (grown_set _ X 2 z)
theorem ROwn.keptX {eo ei : TypeId} {sz B X : Nat} {w w' : World} {v : Value} {ps : List Pc} (h : ROwn eo ei sz B w v ps) (hg : w.grownBy w' (some X)) (hX : X < B) : ROwn eo ei sz B w' v ps := by
 have kk : ∀ {e : TypeId} {sz n : Nat} {u : Value} {xs : List Value}, w.ownsRow B e sz u n xs → w'.ownsRow B e sz u n xs := fun {e sz n u xs} ho => ho.kept hg (by
  cases hu : u.ownBlock with
  | none => exact .inl rfl
  | some k => exact .inr (fun e => by have := (ho.lt k hu).1; have := Option.some.inj e; omega))
 exact ⟨kk h.row, fun i p hp => kk (h.edge i p hp), h.apart⟩
theorem own_keptX {e : TypeId} {sz B n X : Nat} {w w' : World} {v : Value} {xs : List Value} (h : w.ownsRow B e sz v n xs) (hg : w.grownBy w' (some X)) (hX : X < B) : w'.ownsRow B e sz v n xs := h.kept hg (by
 cases hu : v.ownBlock with
 | none => exact .inl rfl
 | some k => exact .inr (fun e => by have := (h.lt k hu).1; have := Option.some.inj e; omega))
theorem links_own2 {w : World} {B cap n : Nat} {A : Option Addr} {l : List Lk} (h : w.ownsRow B 127 2 (.slice A n cap) n (lks l)) (hn : n ≤ maxLen) (hs : ∀ x ∈ l, x.name.size ≤ maxLen ∧ x.to.size ≤ maxLen) :
 LinksAt w w.heap.size A n l := by
 have hl : l.length = n := by have := h.1; rw [lks_len] at this; omega
 by_cases h0 : 0 < n
 ·obtain ⟨A', cap', e1, hf⟩ := own_form h
  injection e1 with e1 _ e3
  subst e1
  obtain ⟨g, rfl, _⟩ := hf h0
  exact links_own h hn hs
 ·exact ⟨hl, hn, fun h => absurd h h0⟩
theorem own_end {d : Dt} {w wF : World} {AL : Option Addr} {cL Bs Bz Bl : Nat} {VS VZ : Value} {ps pz : List Pc} (hD : DataAt w w.heap.size d) (h0 : dataE d = 0)
 (hs : ROwn 115 123 9 Bs wF VS ps) (hpl : ps.length = d.sn) (hps : ∀ (i : Nat) p s, ps[i]? = some p → d.ss[i]? = some s → PcSt p s)
 (hz : ROwn 54 125 5 Bz wF VZ pz) (hzl : pz.length = d.zn) (hpz : ∀ (i : Nat) p s, pz[i]? = some p → d.zs[i]? = some s → PcZn p s)
 (hL : wF.ownsRow Bl 127 2 (.slice AL d.ln cL) d.ln (lks d.ls)) : ∃ d', (.agg #[VS, VZ, .slice AL d.ln cL] : Value) = d'.val ∧ DataAt wF wF.heap.size d' ∧ SameD d d' := by
 have hm := manyD_le (right_of h0).many
 have s1 := hD.1.1
 have z1 := hD.2.1.1
 have l1 := hD.2.2.1.1
 have gs : ∀ s ∈ d.ss, s.name.size ≤ maxLen ∧ s.n ≤ maxLen ∧ ∀ r ∈ s.rs, r.le.size ≤ maxLen := fun s hss => by
  obtain ⟨i, hi⟩ := List.getElem?_of_mem hss
  obtain ⟨b, o, q, _, _, hq, hn, hc⟩ := sets_get hD.1 (i := i) (by rw [← s1]; exact (List.getElem?_eq_some_iff.1 hi).1)
  rw [hi] at hq
  obtain rfl := Option.some.inj hq
  have hr := (hc w (Below.refl _ _)).2
  refine ⟨hn, hr.2.1, fun r hr2 => ?_⟩
  obtain ⟨j, hj⟩ := List.getElem?_of_mem hr2
  obtain ⟨_, _, q2, _, _, hq2, hle, _⟩ := RulesAt.get hr (i := j) (by rw [← hr.1]; exact (List.getElem?_eq_some_iff.1 hj).1)
  rw [hj] at hq2
  obtain rfl := Option.some.inj hq2
  exact hle
 have gz : ∀ s ∈ d.zs, s.name.size ≤ maxLen ∧ s.n ≤ maxLen ∧ ∀ r ∈ s.es, r.fmt.size ≤ fmtMax := fun s hss => by
  obtain ⟨i, hi⟩ := List.getElem?_of_mem hss
  obtain ⟨b, o, q, _, _, hq, hn, hc⟩ := zones_get hD.2.1 (i := i) (by rw [← z1]; exact (List.getElem?_eq_some_iff.1 hi).1)
  rw [hi] at hq
  obtain rfl := Option.some.inj hq
  have hr := (hc w (Below.refl _ _)).2
  refine ⟨hn, hr.2.1, fun r hr2 => ?_⟩
  obtain ⟨j, hj⟩ := List.getElem?_of_mem hr2
  obtain ⟨_, _, q2, _, _, hq2, hle, _⟩ := eras_get hr (i := j) (by rw [← hr.1]; exact (List.getElem?_eq_some_iff.1 hj).1)
  rw [hj] at hq2
  obtain rfl := Option.some.inj hq2
  exact hle
 have gl : ∀ x ∈ d.ls, x.name.size ≤ maxLen ∧ x.to.size ≤ maxLen := fun x hx => by
  obtain ⟨i, hi⟩ := List.getElem?_of_mem hx
  obtain ⟨_, _, q, _, _, hq, q1, q2, _⟩ := links_get hD.2.2.1 (i := i) (by rw [← l1]; exact (List.getElem?_eq_some_iff.1 hi).1)
  rw [hi] at hq
  obtain rfl := Option.some.inj hq
  exact ⟨q1, q2⟩
 obtain ⟨As, cs, ts, rfl, hsA, hsS⟩ := hs.sets (by omega) (by unfold maxLen; omega) hps gs
 obtain ⟨Az, cz, tz, rfl, hzA, hzS⟩ := hz.zones (by omega) (by unfold maxLen; omega) hpz gz
 exact ⟨⟨As, d.ss.length, cs, ts, Az, d.zs.length, cz, tz, AL, d.ln, cL, d.ls⟩, rfl, ⟨hsA, hzA, links_own2 (n := d.ln) hL (by unfold maxLen; omega) gl, by show d.ln ≤ 4294967280; omega⟩, ⟨s1, z1, rfl, hsS, hzS, rfl⟩⟩
set_option maxHeartbeats 8000000 in
theorem ownData_any (d : Dt) (w : World) (hD : DataAt w w.heap.size d) (h0 : dataE d = 0) :
 Calls Tryz.prog 29 #[d.val] w fun e w' => ∃ d', e = .returned d'.val ∧ DataAt w' w'.heap.size d' ∧ SameD d d' ∧ Below w.heap.size w w' := by
 have HD := Lib.hid hD
 have H0 := Lib.hid h0
 have HM := Lib.hid (manyD_le (right_of h0).many)
 have HN5 : Hid (d.sn ≤ 5 ∧ d.zn ≤ 5 ∧ d.ln ≤ 4) := Lib.hid ⟨by have := HM.out.1; omega, HM.out.2.1, HM.out.2.2⟩
 have HFS := Lib.hid (fun s hs => rules_few2 (s := s) h0 hs)
 have HFZ := Lib.hid (fun s hs => eras_few2 (z := s) h0 hs)
 have HLL : Hid ((lks d.ls).length = d.ln * 2 ∧ (d.lA = none → d.ln = 0)) := Lib.hid ⟨by rw [lks_len, hD.2.2.1.1], fun hz => Classical.byContradiction fun h0 => by
  obtain ⟨_, _, e, _⟩ := hD.2.2.1.2.2 (by omega)
  rw [hz] at e; cases e⟩
 have hln4 : d.ln ≤ 4 := HN5.out.2.2
 have hs5 : d.sn ≤ 5 := HN5.out.1
 have hz5 : d.zn ≤ 5 := HN5.out.2.1
 unfold Dt.val
 clear hD h0
 have hb0 : Below w.heap.size w (((w.alloc (.cells #[.slice d.sA d.sn d.sc, .slice d.zA d.zn d.zc, .slice d.lA d.ln d.lc] 26)).alloc (.cells #[.slice none 0 0, .slice none 0 0, .slice none 0 0] 26)).alloc (.cells #[] 127)) := (((Below.refl w.heap.size w).alloc (Nat.le_refl _) _).alloc (by simp) _).alloc (by simp; omega) _
 have k0 : (((w.alloc (.cells #[.slice d.sA d.sn d.sc, .slice d.zA d.zn d.zc, .slice d.lA d.ln d.lc] 26)).alloc (.cells #[.slice none 0 0, .slice none 0 0, .slice none 0 0] 26)).alloc (.cells #[] 127)).heap[w.heap.size]? = some (.cells #[.slice d.sA d.sn d.sc, .slice d.zA d.zn d.zc, .slice d.lA d.ln d.lc] 26) := by rw [push_past _ _ _ (by simp; omega), push_past _ _ _ (by simp), push_at _ _ _ (by simp)]
 have k1 : (((w.alloc (.cells #[.slice d.sA d.sn d.sc, .slice d.zA d.zn d.zc, .slice d.lA d.ln d.lc] 26)).alloc (.cells #[.slice none 0 0, .slice none 0 0, .slice none 0 0] 26)).alloc (.cells #[] 127)).heap[w.heap.size + 1]? = some (.cells #[.slice none 0 0, .slice none 0 0, .slice none 0 0] 26) := by rw [push_past _ _ _ (by simp), push_at _ _ _ (by simp)]
 have o0 : (((w.alloc (.cells #[.slice d.sA d.sn d.sc, .slice d.zA d.zn d.zc, .slice d.lA d.ln d.lc] 26)).alloc (.cells #[.slice none 0 0, .slice none 0 0, .slice none 0 0] 26)).alloc (.cells #[] 127)).ownsRow (w.heap.size + 2) 127 2 (.slice (some ⟨w.heap.size + 1 + 1, 0, none⟩) 0 0) 0 [] := by
  have := World.ownsRow_made (base := w.heap.size + 2) (e := 127) (size := 2) ((w.alloc (.cells #[.slice d.sA d.sn d.sc, .slice d.zA d.zn d.zc, .slice d.lA d.ln d.lc] 26)).alloc (.cells #[.slice none 0 0, .slice none 0 0, .slice none 0 0] 26)) #[] 0 (by simp) (by decide) rfl
  rw [World.size_alloc, World.size_alloc] at this
  exact this
 have kz : (((w.alloc (.cells #[.slice d.sA d.sn d.sc, .slice d.zA d.zn d.zc, .slice d.lA d.ln d.lc] 26)).alloc (.cells #[.slice none 0 0, .slice none 0 0, .slice none 0 0] 26)).alloc (.cells #[] 127)).heap.size = w.heap.size + 3 := by simp
 have HB0 := Lib.hid hb0
 have HK0 := Lib.hid k0
 have HK1 := Lib.hid k1
 have HO0 := Lib.hid o0
 have HKZ := Lib.hid kz
 clear hb0 k0 k1 o0 kz
 go_enter Tryz.func29, Tryz.ntmps29
 go_wp2_with (at_builtin; refine wpList_appc rfl _ _ 24 rfl (w.heap.size + 2) 127 (.agg #[.string ⟨#[]⟩, .string ⟨#[]⟩]) 2 32 Tryz.underlying24 infoLink rfl (by decide) _ 0 [] rfl HO0.out d.lA d.ln d.lc (lks d.ls) rfl HLL.out.2 HLL.out.1 (fun ad hA => lks_cells (HD.out.next HB0.out).2.2.1 hA) lks_one (by unfold maxLen; omega) (by omega) (by rw [HKZ.out]; omega) ?_; intro vL w1 hown1 hg1 hn1; rw [Nat.zero_add, List.nil_append] at hown1; obtain ⟨AL, cL, rfl, _⟩ := own_form hown1)
 have hg1' : World.grownBy _ w1 (some (w.heap.size + 1 + 1)) := hg1
 have HB1 : Hid (Below w.heap.size w w1) := Lib.hid (HB0.out.grown hg1' HB0.out.size (fun k hk => by have := Option.some.inj hk; omega))
 have hz1 : w.heap.size + 3 ≤ w1.heap.size := by have := hg1'.size; rw [HKZ.out] at this; exact this
 have hk0 := (hg1'.block w.heap.size (by rw [HKZ.out]; omega) (by intro e; have := Option.some.inj e; omega)).trans HK0.out
 have hk1 := (hg1'.block (w.heap.size + 1) (by rw [HKZ.out]; omega) (by intro e; have := Option.some.inj e; omega)).trans HK1.out
 have KW : Hid (∃ Wz : World, Wz = (w1.alloc (.cells #[.slice none 0 0, .slice none 0 0, .slice AL d.ln cL] 26))) := Lib.hid ⟨_, rfl⟩
 obtain ⟨Wz, hWz⟩ := KW.out
 rw [← hWz]
 have hgz : w1.grownBy Wz none := by
  rw [hWz]
  exact World.grownBy_alloc w1 _ none
 have hsz : Wz.heap.size = w1.heap.size + 1 := by rw [hWz]; simp
 have hx0 : Wz.heap[w1.heap.size]? = some (.cells #[.slice none 0 0, .slice none 0 0, .slice AL d.ln cL] 26) := by rw [hWz]; exact World.alloc_heap_new w1 _
 have hk0' := (hgz.block w.heap.size (by omega) (by simp)).trans hk0
 have hk1' := (hgz.block (w.heap.size + 1) (by omega) (by simp)).trans hk1
 have hol : Wz.ownsRow (w.heap.size + 2) 127 2 (.slice AL d.ln cL) d.ln (lks d.ls) := hown1.kept hgz (by
  cases hu : (Value.slice AL d.ln cL).ownBlock with
  | none => exact .inl rfl
  | some k => exact .inr (by simp))
 have hlx : ∀ k, (Value.slice AL d.ln cL).ownBlock = some k → k < w1.heap.size := fun k hk => (hown1.lt k hk).2
 have HOL := Lib.hid hol
 have HLX := Lib.hid hlx
 have HBZ : Hid (Below w.heap.size w Wz) := Lib.hid (HB1.out.grown hgz HB1.out.size (fun k hk => by cases hk))
 obtain ⟨X, hX⟩ : ∃ X, X = w1.heap.size := ⟨_, rfl⟩
 rw [← hX] at hx0 hsz hz1 HLX
 have HXZ : Hid (X < Wz.heap.size) := Lib.hid (by omega)
 have HXH : Hid (w.heap.size ≤ X) := Lib.hid (by omega)
 have HX2 : Hid (w.heap.size + 3 ≤ X) := Lib.hid hz1
 have HHX : Hid (w.heap.size ≠ X) := Lib.hid (by omega)
 have HHZ : Hid (w.heap.size < Wz.heap.size) := Lib.hid (by omega)
 have KX0 : Hid (Wz.heap[X]? = some (.cells #[.slice none 0 0, .slice none 0 0, .slice AL d.ln cL] 26)) := Lib.hid hx0
 have HXW : Hid (∀ W, Wz.grownBy W (some X) → W.heap[w.heap.size]? = some (.cells #[.slice d.sA d.sn d.sc, .slice d.zA d.zn d.zc, .slice d.lA d.ln d.lc] 26) ∧ W.cell? ⟨w.heap.size, 0, none⟩ = some (.slice d.sA d.sn d.sc) ∧ W.cell? ⟨w.heap.size, 1, none⟩ = some (.slice d.zA d.zn d.zc)) := Lib.hid fun W h => by
  have h2 := (h.block w.heap.size HHZ.out (by intro e; exact HHX.out (Option.some.inj e))).trans hk0'
  exact ⟨h2, cell_of h2 rfl, cell_of h2 rfl⟩
 have HK1Z := Lib.hid hk1'
 have HXP : Hid (Value.pointer (some ⟨w1.heap.size, 0, none⟩) = .pointer (some ⟨X, 0, none⟩)) := Lib.hid (by rw [hX])
 rw [← hX]
 clear hg1 hn1 hg1' hk0 hk1 hgz hx0 hk0' hk1' hol hlx hown1 HB0 HK0 HK1 HO0 HKZ HB1 KW hWz hz1 HXP hX hsz
 go_loopw [4] (fun b4 wr => ∃ (k : Nat) (ps : List Pc) (v : Value), k ≤ d.sn ∧ b4 = .int .i64 k ∧ ps.length = k ∧ Hid (ROwn 115 123 9 Wz.heap.size wr v ps) ∧ Hid (∀ (i : Nat) p s, ps[i]? = some p → d.ss[i]? = some s → PcSt p s) ∧ Hid (Wz.grownBy wr (some X)) ∧ Hid (wr.heap[X]? = some (.cells #[v, .slice none 0 0, .slice AL d.ln cL] 26))) (fun b4 _ => d.sn - (intOf b4).toNat)
 case atStart => exact ⟨0, [], .slice none 0 0, Nat.zero_le _, rfl, rfl, Lib.hid (ROwn.nil _ _ _ _ _), Lib.hid (fun i p s h => by simp at h), Lib.hid (World.grownBy.refl _ _), KX0⟩
 case round =>
  clear KX0
  obtain ⟨k, ps, v, hk, rfl, hpl, hR, hP, hG, hO⟩ := hrel
  obtain ⟨hd, x0, x1⟩ := HXW.out wr hG.out
  by_cases hlt : k < d.sn
  ·obtain ⟨b, o, s, hA, hbB, hs, hnm, hcell⟩ := sets_get HD.out.1 hlt
   have hbw : Below w.heap.size w wr := HBZ.out.grown hG.out HBZ.out.size (fun j hj => by obtain rfl := Option.some.inj hj; exact HXH.out)
   have hsn : s.n ≤ 4 := HFS.out s (List.mem_of_getElem? hs)
   have hin := (hcell w (Below.refl _ _)).2
   have hm0 : s.A = none → s.n = 0 := fun hz => Classical.byContradiction fun h0 => by
    obtain ⟨_, _, e, _⟩ := hin.2.2 (by omega)
    rw [hz] at e; cases e
   have hrd : ∀ W', Below wr.heap.size wr W' → ∀ ad, s.A = some ad → ∀ j u, (rls s.rs)[j]? = some u → W'.cell? (ad.add j) = some u := fun W' h ad ha => rls_cells (hcell W' (hbw.trans (h.mono hbw.size))).2 ha
   obtain ⟨⟨e0, e1⟩, _⟩ := hcell wr hbw
   have HE0 := Lib.hid e0
   have HE1 := Lib.hid e1
   have HRD := Lib.hid hrd
   have HS := Lib.hid hs
   have HDD := Lib.hid hd
   have HSL : Hid ((rls s.rs).length = s.n * 9) := Lib.hid (by rw [rls_len, hin.1])
   clear hcell hin hrd e0 e1 hs hd hbw
   rw [hA] at x0
   go_wp2_with fail
   rw [hA] at HDD
   refine own_set_reg w.heap.size X b o d.sn d.sc s.n s.cap k s.A s.name (rls s.rs) v (.slice d.zA d.zn d.zc) (.slice d.lA d.ln d.lc) (.slice none 0 0) (.slice AL d.ln cL) ps Wz wr _ _ _ _ _ _ _ _ _ _ _ _ _ _ _ _ _ _ _ _ _ _ _ _ _ _ _ _ _ _ _ _ _ _ _ _ _ _ _ _ _ _ _ _ _ _ _ _ _ _ _ _ _ _ _ _ _ _ _ _ _ _ _ _ HXZ.out hG.out hR.out hO.out HHZ.out HHX.out HDD.out (Nat.lt_trans hbB HHZ.out) (by have := HXH.out; omega) HE0.out HE1.out hlt HN5.out.1 hm0 hsn HSL.out rls_one HRD.out (by have := HN5.out; omega) ?_
   intro W' v' u hR' hG' hO' t18 t19 t20 t21 t22 t23 t24 t25 t26 t27 t28 t29 t30 t31 t32 t33 t34 t35 t36 t37
   have HR' := Lib.hid hR'
   have HG' := Lib.hid hG'
   have HO' := Lib.hid hO'
   have HP' : Hid (∀ (i : Nat) p q, (ps ++ [⟨u, s.name, s.n, rls s.rs⟩])[i]? = some p → d.ss[i]? = some q → PcSt p q) := Lib.hid fun i p q hp hq => by
    rcases get_snoc hp with hp | ⟨hi, rfl⟩
    ·exact hP.out i p q hp hq
    ·rw [hi, hpl, HS.out] at hq
     obtain rfl := Option.some.inj hq
     exact ⟨rfl, rfl, rfl⟩
   have HL' : Hid ((ps ++ [(⟨u, s.name, s.n, rls s.rs⟩ : Pc)]).length = k + 1) := Lib.hid (by rw [List.length_append, hpl]; rfl)
   clear hR' hG' hO' hR hP hG hO x0 x1
   obtain ⟨qs, hqs⟩ : ∃ qs, qs = ps ++ [(⟨u, s.name, s.n, rls s.rs⟩ : Pc)] := ⟨_, rfl⟩
   rw [← hqs] at HR' HP' HL'
   clear hqs
   go_wp2_with fail
   go_roundw
   case rel => exact ⟨k + 1, qs, v', by omega, by go_num, HL'.out, HR', HP', HG', HO'⟩
   case measure => simp [intOf]; omega
  ·have HR1 := Lib.hid hR.out
   have HG1 := Lib.hid hG.out
   have HP1 := Lib.hid hP.out
   have hpl1 : ps.length = d.sn := by omega
   obtain ⟨VS, hVS⟩ : ∃ VS, VS = v := ⟨_, rfl⟩
   obtain ⟨Wy, hWy⟩ : ∃ Wy, Wy = wr := ⟨_, rfl⟩
   rw [← hVS, ← hWy] at HR1
   rw [← hWy] at HG1
   have KX1 : Hid (Wy.heap[X]? = some (.cells #[VS, .slice none 0 0, .slice AL d.ln cL] 26)) := Lib.hid (by rw [hWy, hVS]; exact hO.out)
   rw [← hWy]
   rw [← hWy] at x0 x1
   clear hVS hWy hR hP hG hO hd
   have HXYS : Hid (X < Wy.heap.size) := Lib.hid (Nat.lt_of_lt_of_le HXZ.out HG1.out.size)
   have HHY : Hid (w.heap.size < Wy.heap.size) := Lib.hid (Nat.lt_of_lt_of_le HHZ.out HG1.out.size)
   have HBY : Hid (Below w.heap.size w Wy) := Lib.hid (HBZ.out.grown HG1.out HBZ.out.size (fun j hj => by obtain rfl := Option.some.inj hj; exact HXH.out))
   have HXY : Hid (∀ W, Wy.grownBy W (some X) → W.heap[w.heap.size]? = some (.cells #[.slice d.sA d.sn d.sc, .slice d.zA d.zn d.zc, .slice d.lA d.ln d.lc] 26) ∧ W.cell? ⟨w.heap.size, 0, none⟩ = some (.slice d.sA d.sn d.sc) ∧ W.cell? ⟨w.heap.size, 1, none⟩ = some (.slice d.zA d.zn d.zc)) := Lib.hid fun W h => HXW.out W (HG1.out.trans h)
   go_wp2_with fail
   clear x0 x1
   go_loopw [5] (fun b4 wr => ∃ (k : Nat) (ps : List Pc) (v : Value), k ≤ d.zn ∧ b4 = .int .i64 k ∧ ps.length = k ∧ Hid (ROwn 54 125 5 Wy.heap.size wr v ps) ∧ Hid (∀ (i : Nat) p s, ps[i]? = some p → d.zs[i]? = some s → PcZn p s) ∧ Hid (Wy.grownBy wr (some X)) ∧ Hid (wr.heap[X]? = some (.cells #[VS, v, .slice AL d.ln cL] 26))) (fun b4 _ => d.zn - (intOf b4).toNat)
   case atStart => exact ⟨0, [], .slice none 0 0, Nat.zero_le _, rfl, rfl, Lib.hid (ROwn.nil _ _ _ _ _), Lib.hid (fun i p s h => by simp at h), Lib.hid (World.grownBy.refl _ _), KX1⟩
   case round =>
    clear KX1
    obtain ⟨k, ps2, v, hk, rfl, hpl, hR, hP, hG, hO⟩ := hrel
    obtain ⟨hd, x0, x1⟩ := HXY.out wr hG.out
    by_cases hlt : k < d.zn
    ·obtain ⟨b, o, s, hA, hbB, hs, hnm, hcell⟩ := zones_get HD.out.2.1 hlt
     have hbw : Below w.heap.size w wr := HBY.out.grown hG.out HBY.out.size (fun j hj => by obtain rfl := Option.some.inj hj; exact HXH.out)
     have hsn : s.n ≤ 4 := HFZ.out s (List.mem_of_getElem? hs)
     have hin := (hcell w (Below.refl _ _)).2
     have hm0 : s.A = none → s.n = 0 := fun hz => Classical.byContradiction fun h0 => by
      obtain ⟨_, _, e, _⟩ := hin.2.2 (by omega)
      rw [hz] at e; cases e
     have hrd : ∀ W', Below wr.heap.size wr W' → ∀ ad, s.A = some ad → ∀ j u, (ers s.es)[j]? = some u → W'.cell? (ad.add j) = some u := fun W' h ad ha => ers_cells (hcell W' (hbw.trans (h.mono hbw.size))).2 ha
     obtain ⟨⟨e0, e1⟩, _⟩ := hcell wr hbw
     have HE0 := Lib.hid e0
     have HE1 := Lib.hid e1
     have HRD := Lib.hid hrd
     have HS := Lib.hid hs
     have HDD := Lib.hid hd
     have HSL : Hid ((ers s.es).length = s.n * 5) := Lib.hid (by rw [ers_len, hin.1])
     clear hcell hin hrd e0 e1 hs hd hbw
     rw [hA] at x1
     go_wp2_with fail
     rw [hA] at HDD
     refine own_zone_reg w.heap.size X b o d.zn d.zc s.n s.cap k s.A s.name (ers s.es) v (.slice d.sA d.sn d.sc) (.slice d.lA d.ln d.lc) VS (.slice AL d.ln cL) ps2 Wy wr _ _ _ _ _ _ _ _ _ _ _ _ _ _ _ _ _ _ _ _ _ _ _ _ _ _ _ _ _ _ _ _ _ _ _ _ _ _ _ _ _ _ _ _ _ _ _ _ _ _ _ _ _ _ _ _ _ _ _ _ _ _ _ _ HXYS.out hG.out hR.out hO.out HHY.out HHX.out HDD.out (Nat.lt_trans hbB HHY.out) (by have := HXH.out; omega) HE0.out HE1.out hlt HN5.out.2.1 hm0 hsn HSL.out ers_one HRD.out (by have := HN5.out; omega) ?_
     intro W' v' u hR' hG' hO' t45 t46 t47 t48 t49 t50 t51 t52 t53 t54 t55 t56 t57 t58 t59 t60 t61 t62 t63 t64
     have HR' := Lib.hid hR'
     have HG' := Lib.hid hG'
     have HO' := Lib.hid hO'
     have HP' : Hid (∀ (i : Nat) p q, (ps2 ++ [⟨u, s.name, s.n, ers s.es⟩])[i]? = some p → d.zs[i]? = some q → PcZn p q) := Lib.hid fun i p q hp hq => by
      rcases get_snoc hp with hp | ⟨hi, rfl⟩
      ·exact hP.out i p q hp hq
      ·rw [hi, hpl, HS.out] at hq
       obtain rfl := Option.some.inj hq
       exact ⟨rfl, rfl, rfl⟩
     have HL' : Hid ((ps2 ++ [(⟨u, s.name, s.n, ers s.es⟩ : Pc)]).length = k + 1) := Lib.hid (by rw [List.length_append, hpl]; rfl)
     clear hR' hG' hO' hR hP hG hO x0 x1
     obtain ⟨qs, hqs⟩ : ∃ qs, qs = ps2 ++ [(⟨u, s.name, s.n, ers s.es⟩ : Pc)] := ⟨_, rfl⟩
     rw [← hqs] at HR' HP' HL'
     clear hqs
     go_wp2_with fail
     go_roundw
     case rel => exact ⟨k + 1, qs, v', by omega, by go_num, HL'.out, HR', HP', HG', HO'⟩
     case measure => simp [intOf]; omega
    ·obtain ⟨AZ, cZ, hvZ, _⟩ := own_form hR.out.row
     obtain ⟨AS, cS, hvS, _⟩ := own_form HR1.out.row
     rw [show ps2.length = d.zn by omega] at hvZ
     rw [hpl1] at hvS
     subst hvZ
     subst hvS
     have HR2 := Lib.hid hR.out
     have HG2 := Lib.hid hG.out
     have HP2 := Lib.hid hP.out
     have hpl2 : ps2.length = d.zn := by omega
     have hx := hO.out
     have q0 := cell_of (o := 0) hx rfl
     have q1 := cell_of (o := 1) hx rfl
     have q2 := cell_of (o := 2) hx rfl
     have hk1 : wr.heap[w.heap.size + 1]? = some (.cells #[.slice none 0 0, .slice none 0 0, .slice none 0 0] 26) := ((HG1.out.trans HG2.out).block (w.heap.size + 1) (by have := HXZ.out; have := HX2.out; omega) (by intro e; have := Option.some.inj e; have := HX2.out; omega)).trans HK1Z.out
     have p0 := cell_of (o := 0) hk1 rfl
     have p1 := cell_of (o := 1) hk1 rfl
     have p2 := cell_of (o := 2) hk1 rfl
     have z0 := frozen_of (o := 0) hk1
     have z1 := frozen_of (o := 1) hk1
     have z2 := frozen_of (o := 2) hk1
     have HGF := Lib.hid (grown_set3 wr (w.heap.size + 1) (.slice AS d.sn cS) (.slice AZ d.zn cZ) (.slice AL d.ln cL))
     have HBF : Hid (Below w.heap.size w (((wr.setCell ⟨w.heap.size + 1, 0, none⟩ (.slice AS d.sn cS)).setCell ⟨w.heap.size + 1, 1, none⟩ (.slice AZ d.zn cZ)).setCell ⟨w.heap.size + 1, 2, none⟩ (.slice AL d.ln cL))) := Lib.hid ((HBY.out.grown HG2.out HBY.out.size (fun j hj => by obtain rfl := Option.some.inj hj; exact HXH.out)).grown HGF.out (by have := (HBY.out.grown HG2.out HBY.out.size (fun j hj => by obtain rfl := Option.some.inj hj; exact HXH.out)).size; exact this) (fun j hj => by obtain rfl := Option.some.inj hj; omega))
     have HK1F := Lib.hid (set3_obj (x := .slice AS d.sn cS) (y := .slice AZ d.zn cZ) (z := .slice AL d.ln cL) hk1)
     have HEND := Lib.hid (own_end (cL := cL) HD.out H0.out ((HR1.out.keptX HG2.out HXZ.out).keptX HGF.out (by have := HXZ.out; have := HX2.out; omega)) hpl1 HP1.out (HR2.out.keptX HGF.out (by have := HXYS.out; have := HX2.out; omega)) hpl2 HP2.out
      (own_keptX (((HOL.out.kept (HG1.out.trans HG2.out) (by
       cases hu : (Value.slice AL d.ln cL).ownBlock with
       | none => exact .inl rfl
       | some k => exact .inr (fun e => by have := HLX.out k hu; have := Option.some.inj e; omega)))) ) HGF.out (by omega)))
     have h3 := HK1F.out
     have y0 := cell_of (o := 0) h3 rfl
     have y1 := cell_of (o := 1) h3 rfl
     have y2 := cell_of (o := 2) h3 rfl
     clear hx hk1 h3 hR hP hG hO hd
     go_wp2_with fail
     obtain ⟨d', e1, e2, e3⟩ := HEND.out
     refine bodyPost_ret (results_cell_row rfl _ _ (w.heap.size + 1) 26 _ (0, 0) _ rfl HK1F.out Tryz.underlying26 rfl (by kernel_rfl)) rfl ⟨d', congrArg Ending.returned e1, e2, e3, HBF.out⟩
end Go.Proofs.YtbbbeldbhlehnaaGreatDoor
