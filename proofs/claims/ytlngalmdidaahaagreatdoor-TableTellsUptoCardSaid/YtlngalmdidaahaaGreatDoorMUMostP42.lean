/- Parts of a proof, laid together. -/
import Derived.BigQuiet
import Derived.Test.YtlngalmdidaahaaGreatDoorMUMostP40
import Derived.Test.YtlngalmdidaahaaGreatDoorMUMostP41
import Derived.Test.YtlngalmdidaahaaGreatDoorMUMostP39
set_option linter.unusedSimpArgs false
set_option linter.unusedVariables false
/-! The walk of table.Compile. -/
section
set_option linter.unusedVariables false
set_option linter.unusedSimpArgs false
namespace Go.Proofs.YtlngalmdidaahaaGreatDoor
open Go.RowKit Gno
theorem own_of_below {w W : World} {B K sz n : Nat} {e : TypeId} {v : Value} {xs : List Value} (h : w.ownsRow B e sz v n xs) (hb : Below K w W) (hK : w.heap.size ≤ K) : W.ownsRow B e sz v n xs := by
  refine ⟨h.1, ?_⟩
  rcases h.2 with h | ⟨g, cap, cur, h1, h2, h3, h4⟩
  · exact .inl h
  · exact .inr ⟨g, cap, cur, h1, h2, (hb.block g (by have := (Array.getElem?_eq_some_iff.1 h3).1; omega)).trans h3, h4⟩
theorem heap_below_keep {w W : World} {g : Nat} {o : Obj} (h : w.heap[g]? = some o) (hb : Below w.heap.size w W) : W.heap[g]? = some o := (hb.block g (Array.getElem?_eq_some_iff.1 h).1).trans h
theorem heap_alloc_keep {w : World} {g : Nat} {o o' : Obj} (h : w.heap[g]? = some o) : (w.alloc o').heap[g]? = some o := by
  rw [push_past _ _ _ (Array.getElem?_eq_some_iff.1 h).1]; exact h
theorem lt_of_heap {w wk : World} {g : Nat} (h : w.heap[g]? = wk.heap[g]?) (hl : g < wk.heap.size) : g < w.heap.size := by
  rcases Nat.lt_or_ge g w.heap.size with q | q
  · exact q
  · rw [Array.getElem?_eq_none q, Array.getElem?_eq_getElem hl] at h; cases h
theorem heap_below_keep' {w W wk : World} {g : Nat} (h : w.heap[g]? = wk.heap[g]?) (hb : Below w.heap.size w W) (hl : g < wk.heap.size) : W.heap[g]? = wk.heap[g]? := (hb.block g (lt_of_heap h hl)).trans h
theorem heap_alloc_keep' {w wk : World} {g : Nat} {o' : Obj} (h : w.heap[g]? = wk.heap[g]?) (hl : g < wk.heap.size) : (w.alloc o').heap[g]? = wk.heap[g]? := by
  rw [push_past _ _ _ (lt_of_heap h hl)]; exact h
theorem tn_below {w W : World} {b o : Nat} {y : Tn} (h : TnAt w b o y) (hb : Below w.heap.size w W) : TnAt W b o y := h.below hb (World.block_lt_of_cell? w _ h.1)
theorem tn_alloc {w : World} {b o : Nat} {y : Tn} {ob : Obj} (h : TnAt w b o y) : TnAt (w.alloc ob) b o y := tn_below h ((Below.refl _ _).alloc (Nat.le_refl _) _)
theorem turns_shape {w : World} {B n : Nat} {v : Value} {l : List Tn} (h : w.ownsRow B 56 4 v n (tns l)) : ∃ A cap, v = .slice A n cap ∧ ∀ p y, l[p]? = some y → ∃ g, A = some ⟨g, 0, none⟩ ∧ TnAt w g (p * 4) y := by
  have hl : l.length = n := by have := h.1; rw [tns_len] at this; omega
  rcases h.2 with ⟨rfl, rfl⟩ | ⟨g, cap, cur, rfl, h9⟩
  · exact ⟨none, 0, rfl, fun p y hp => by have := (List.getElem?_eq_some_iff.1 hp).1; omega⟩
  · refine ⟨some ⟨g, 0, none⟩, cap, rfl, fun p y hp => ⟨g, rfl, ?_⟩⟩
    obtain ⟨g0, g1, g2, g3⟩ := tns_get l p y hp
    have hadd : ∀ j, (⟨g, 0, none⟩ : Addr).add j = ⟨g, j, none⟩ := fun j => by unfold Addr.add; split <;> simp_all
    have c0 := h.cells (g := g) rfl _ _ g0
    have c1 := h.cells (g := g) rfl _ _ g1
    have c2 := h.cells (g := g) rfl _ _ g2
    have c3 := h.cells (g := g) rfl _ _ g3
    rw [hadd] at c0 c1 c2 c3
    exact ⟨c0, c1, c2, c3⟩
theorem own_one {w : World} {F : Int} {g : Nat} {O : Obj} (hg : g = w.heap.size + 1) : ((w.alloc O).alloc (.cells #[.int .i64 F] 3)).ownsRow (w.heap.size + 1) 3 1 (.slice (some ⟨g, 0, none⟩) 1 1) 1 (ints [F]) := by
  refine ⟨rfl, .inr ⟨g, 1, #[.int .i64 F], rfl, by omega, ?_, Nat.le_refl _, by decide, rfl, rfl⟩⟩
  rw [hg]
  exact push_at _ _ _ (by simp)
theorem row_shape {w : World} {B n : Nat} {v : Value} {zs : List Int} (h : w.ownsRow B 3 1 v n (ints zs)) (hz : 0 < zs.length) : ∃ g cap, v = .slice (some ⟨g, 0, none⟩) n cap ∧ B ≤ g := by
  have hl : zs.length = n := by have := h.1; unfold ints at this; simpa using this
  rcases h.2 with ⟨_, e⟩ | ⟨g, cap, cur, e, hb, _⟩
  · omega
  · exact ⟨g, cap, e, hb⟩
set_option maxRecDepth 100000 in
set_option maxHeartbeats 8000000 in
theorem compile_good (d : Dt) (nm : ByteArray) (w : World) (hD : DataAt w w.heap.size d) (hM : MaxAt w w.heap.size) (he : zoneEr d nm = 0) (z : Zn) (hzq : d.zs[(zoneK d nm).toNat]? = some z) :
    Calls Tryz.prog 13 #[d.val, .string nm] w fun e w' => ∃ v, e = .returned (.tuple #[v, .int .i64 0]) ∧ w'.ownsRow (w.heap.size + 1) 56 4 v (compT d z).length (tns (compT d z)) ∧ Below w.heap.size w w' := by
  have HN := Lib.hid (fun W (hb : BoxB d w W) => box_next (d := d) (w := w) (W := W) hD hb)
  have hd0 : dataE d = 0 := by
    unfold zoneEr at he
    split at he
    · rename_i q; exact absurd he q
    · rename_i q; exact Classical.not_not.1 q
  have hle : ¬ leadN d nm < 0 := by
    intro q
    have := (zone_none (nm := nm) hd0 q).2
    rw [he] at this; cases this
  have hzk := (zone_is (nm := nm) hd0 hle).1
  have hlr : leadN d nm < d.zs.length := (leadT_range d (d.ls.length + 1) nm).2
  have hk0 : 0 ≤ zoneK d nm := by omega
  have hzn := hD.2.1.1
  have hk1 : zoneK d nm < (d.zn : Int) := by omega
  have hr := rightE_of hd0
  have hzm := List.mem_of_getElem? hzq
  have hef := eras_few hd0 hzm
  have hrf : ∀ s ∈ d.ss, s.rs.length ≤ 4 := fun s hs => by
    obtain ⟨i, hi⟩ := List.getElem?_of_mem hs
    have hil := (List.getElem?_eq_some_iff.1 hi).1
    obtain ⟨_, _, q, _, _, hq, _, hq2⟩ := sets_get hD.1 (i := i) (by have := hD.1.1; omega)
    rw [hi] at hq
    injection hq with hq
    subst hq
    have h1 := ((hq2 w (Below.refl _ _)).2).1
    have h2 := rules_few hd0 hs
    omega
  have HCL : Hid (∀ x F, (cutsE d x F).length ≤ 241) := Lib.hid (fun x F => cutsE_len hr hrf)
  have hcomp := comp_len hr hrf
  obtain ⟨b, o, q, hA, hbB, hq, hq1, hq2⟩ := zones_get hD.2.1 (i := (zoneK d nm).toNat) (by omega)
  rw [hzq] at hq
  injection hq with hq
  subst hq
  obtain ⟨qn, A2, n2, cap2, es2⟩ := z
  have hE := (hq2 w (Below.refl _ _)).2
  have hEl : es2.length = n2 := hE.1
  replace hef : n2 ≤ 4 := hef
  have hpos : 0 < n2 := by
    rcases Nat.eq_zero_or_pos n2 with e | e
    · have he := hr.ends _ hzm
      have : es2.length = 0 := hEl.trans e
      have he : aheadOf es2 es2.length = 1893456000 := he
      rw [this] at he
      simp [aheadOf] at he
    · exact e
  obtain ⟨b2, o2, _, hA2, _, _, _, _⟩ := eras_get hE (i := 0) hpos
  have hA2' : A2 = some ⟨b2, o2, none⟩ := hA2
  clear hA2
  subst hA2'
  have HCO : Hid (∀ k, (compUpTo d es2 k).length ≤ 241 * k) := Lib.hid (fun k => hcomp es2 k)
  have HER : Hid (∀ j, j < n2 → ∃ x, es2[j]? = some x ∧ ((-50400 ≤ x.std ∧ x.std ≤ 50400) ∧ (-1 ≤ x.set ∧ x.set < d.sn) ∧ (0 ≤ x.save ∧ x.save ≤ 7200) ∧ (x.set < 0 ∨ x.save = 0)) ∧ fmtOk x.fmt = true ∧ ∀ W, BoxB d w W → ErAt W b2 (o2 + j * 5) x) := Lib.hid (fun j hj => by
    obtain ⟨b3, o3, y, hA3, _, hy, _, hc⟩ := eras_get hE hj
    injection hA3 with hA3
    injection hA3 with e1 e2 _
    subst e1
    subst e2
    have h1 := eraOk_is (hr.eras _ hzm j y hy)
    exact ⟨y, hy, ⟨h1.1, h1.2.1, h1.2.2.1, h1.2.2.2.1⟩, hr.fmts _ hzm y (List.mem_of_getElem? hy), fun W h => hc W (HN.out W h).1⟩)
  have HSET : Hid (∀ x : Er, ¬ x.set < 0 → x.set < d.sn → ∃ b5 o5 s, d.sA = some ⟨b5, o5, none⟩ ∧ d.ss[x.set.toNat]? = some s ∧ s.n ≤ 4 ∧ (∀ r ∈ s.rs, r.e = 0) ∧ ∀ W, BoxB d w W → W.cell? ⟨b5, o5 + x.set.toNat * 2 + 1, none⟩ = some (.slice s.A s.n s.cap) ∧ RulesAt W W.heap.size s.A s.n s.rs) := Lib.hid (fun x h0 h1 => by
    obtain ⟨b5, o5, s, e1, e2, e3, e4, e5⟩ := sets_get hD.1 (i := x.set.toNat) (by omega)
    exact ⟨b5, o5, s, e1, e3, rules_few hd0 (List.mem_of_getElem? e3), hr.rules s (List.mem_of_getElem? e3), fun W h => by
      have h1 := (HN.out W h).1
      exact ⟨(e5 W h1).1.2, ((e5 W h1).2).more (by have := h1.size; omega)⟩⟩)
  have HZ : Hid (∀ W, BoxB d w W → Calls Tryz.prog 19 #[.agg #[.slice d.sA d.sn d.sc, .slice d.zA d.zn d.zc, .slice d.lA d.ln d.lc], .string nm] W fun e w' => e = .returned (.tuple #[.int .i64 (zoneK d nm), .int .i64 0]) ∧ BoxB d w w') := Lib.hid (fun W hb => by
    have := zone_any d nm W (HN.out W hb).2.1 (hM.next (HN.out W hb).1)
    unfold Dt.val at this
    rw [he] at this
    exact this.mono fun _ _ h => ⟨h.1, hb.trans (h.2.mono (by have := hb.size; simpa using this))⟩)
  have HHC : Hid (∀ (x : Er) t W, BoxB d w W → ((-50400 ≤ x.std ∧ x.std ≤ 50400) ∧ (-1 ≤ x.set ∧ x.set < d.sn) ∧ (0 ≤ x.save ∧ x.save ≤ 7200) ∧ (x.set < 0 ∨ x.save = 0)) → fmtOk x.fmt = true → Calls Tryz.prog 36 #[.agg #[.slice d.sA d.sn d.sc, .slice (some ⟨b, o, none⟩) d.zn d.zc, .slice d.lA d.ln d.lc], .agg #[.int .i64 x.std, .int .i64 x.set, .int .i64 x.save, .string x.fmt, .int .i64 x.til], .int .i64 t] W fun e w' => e = .returned (.agg #[.int .i64 (offTo d x t), .int .i64 (offSv d x t), .string (offAb d x t)]) ∧ Below W.heap.size W w') := Lib.hid (fun x t W hb h1 h2 => by
    have := holds_any d x t W (HN.out W hb).2.1 (hM.next (HN.out W hb).1) hr.rules h1 h2
    unfold Dt.val at this
    rwa [hA] at this)
  have HDC : Hid (∀ W, BoxB d w W → (W.cell? ⟨w.heap.size, 0, none⟩ = some (.slice d.sA d.sn d.sc) ∧ W.cell? ⟨w.heap.size, 1, none⟩ = some (.slice (some ⟨b, o, none⟩) d.zn d.zc) ∧ W.cell? ⟨w.heap.size, 2, none⟩ = some (.slice d.lA d.ln d.lc))) := Lib.hid (fun W h => by
    have h1 := HN.out W h
    exact ⟨h1.2.2.1, hA ▸ h1.2.2.2.1, h1.2.2.2.2⟩)
  have HZC : Hid (∀ W, BoxB d w W → W.cell? ⟨b, o + (zoneK d nm).toNat * 2 + 1, none⟩ = some (.slice (some ⟨b2, o2, none⟩) n2 cap2)) := Lib.hid (fun W h => (hq2 W (HN.out W h).1).1.2)
  have hEL := Lib.hid hEl
  obtain ⟨K, hK⟩ : ∃ v, v = zoneK d nm := ⟨_, rfl⟩
  rw [← hK] at hk0 hk1 HZ HZC
  clear hd0 hle hzk hlr hzn hr hzm hrf hcomp hA hbB hq1 hq2 hE hEl hK he hzq hD hM
  unfold Dt.val
  have hbb : BoxB d w (w.alloc (Dobj d)) := Below.refl _ _
  go_enter Tryz.func13, Tryz.ntmps13
  go_wp2_with fail
  refine (HZ.out _ hbb).mono ?_
  rintro e w2 ⟨rfl, h2⟩
  obtain ⟨SA, hSA⟩ : ∃ v, v = d.sA := ⟨_, rfl⟩
  rw [← hSA] at HSET HHC HDC
  rw [← hSA]
  clear hSA HZ hbb
  obtain ⟨c0, c1, c2⟩ := HDC.out _ h2
  have z1 := HZC.out _ h2
  have H2 := Lib.hid h2
  clear h2
  go_wp2_with fail
  go_loopw [8, 9, 37] (fun b8 b9 b37 wr => ∃ (j : Nat) (v : Value), j ≤ n2 ∧ b37 = .int .i64 j ∧ b9 = .int .i64 (aheadOf es2 j) ∧ v = b8 ∧ Hid (wr.ownsRow (w.heap.size + 1) 56 4 v (compUpTo d es2 j).length (tns (compUpTo d es2 j))) ∧ Hid (BoxB d w wr)) (fun _ _ b37 _ => n2 - (intOf b37).toNat)
  case atStart => exact ⟨0, _, Nat.zero_le _, rfl, rfl, rfl, Lib.hid (World.ownsRow_nil _ _ _ _), H2⟩
  case round =>
    clear c0 c1 c2 z1
    obtain ⟨j, v0, hj, rfl, rfl, rfl, hown, hb⟩ := hrel
    by_cases hjt : j < n2
    · obtain ⟨x, hx, hxo, hxf, hxc⟩ := HER.out j hjt
      have HST := Lib.hid (comp_step (d := d) hx)
      have HAH := Lib.hid (ahead_step hx)
      obtain ⟨wo, hwo⟩ : ∃ wo : World, wo = wr := ⟨_, rfl⟩
      rw [← hwo] at hown hb
      rw [← hwo]
      clear hwo
      obtain ⟨x0, x1, x2, x3, x4⟩ := hxc _ hb.out
      obtain ⟨F, hF⟩ : ∃ v, v = aheadOf es2 j := ⟨_, rfl⟩
      rw [← hF] at HST
      rw [← hF]
      have HXH : Hid (∀ W : World, W.heap[wo.heap.size]? = some (.cells #[.int .i64 x.std, .int .i64 x.set, .int .i64 x.save, .string x.fmt, .int .i64 x.til] 46) → (W.cell? ⟨wo.heap.size, 0, none⟩ = some (.int .i64 x.std) ∧ W.cell? ⟨wo.heap.size, 1, none⟩ = some (.int .i64 x.set) ∧ W.cell? ⟨wo.heap.size, 2, none⟩ = some (.int .i64 x.save) ∧ W.cell? ⟨wo.heap.size, 3, none⟩ = some (.string x.fmt) ∧ W.cell? ⟨wo.heap.size, 4, none⟩ = some (.int .i64 x.til))) := Lib.hid (fun W k => ⟨cell_of k rfl, cell_of k rfl, cell_of k rfl, cell_of k rfl, cell_of k rfl⟩)
      have HX : Hid (∀ W, Below (wo.heap.size + 1) (wo.alloc (.cells #[.int .i64 x.std, .int .i64 x.set, .int .i64 x.save, .string x.fmt, .int .i64 x.til] 46)) W → BoxB d w W ∧ (W.cell? ⟨wo.heap.size, 0, none⟩ = some (.int .i64 x.std) ∧ W.cell? ⟨wo.heap.size, 1, none⟩ = some (.int .i64 x.set) ∧ W.cell? ⟨wo.heap.size, 2, none⟩ = some (.int .i64 x.save) ∧ W.cell? ⟨wo.heap.size, 3, none⟩ = some (.string x.fmt) ∧ W.cell? ⟨wo.heap.size, 4, none⟩ = some (.int .i64 x.til))) := Lib.hid (fun W h => by
        have k := (h.block wo.heap.size (by simp)).trans (World.alloc_heap_new wo (.cells #[.int .i64 x.std, .int .i64 x.set, .int .i64 x.save, .string x.fmt, .int .i64 x.til] 46))
        have hz : BoxB d w (wo.alloc (.cells #[.int .i64 x.std, .int .i64 x.set, .int .i64 x.save, .string x.fmt, .int .i64 x.til] 46)) := Below.alloc hb.out (by have := hb.out.size; simpa using this) _
        exact ⟨hz.trans (h.mono (by have := hb.out.size; simp at this ⊢ <;> omega)), HXH.out W k⟩)
      have hcL := HCO.out j
      clear hx hxc hF
      by_cases hs : x.set < 0
      · have gs : decide ((0 : Int) ≤ x.set) = false := by simp; omega
        have HTE : Hid ([F] = timesE d x F) := Lib.hid (timesE_bare hs).symm
        go_wp2_with fail
        obtain ⟨g, hg⟩ : ∃ v : Nat, v = wo.heap.size + 1 := ⟨_, rfl⟩
        have hgk : wo.heap.size + 1 ≤ g := by omega
        rw [← hg]
        have HT : Hid (((wo.alloc (.cells #[.int .i64 x.std, .int .i64 x.set, .int .i64 x.save, .string x.fmt, .int .i64 x.til] 46)).alloc (.cells #[.int .i64 F] 3)).ownsRow (wo.heap.size + 1) 3 1 (.slice (some ⟨g, 0, none⟩) 1 1) 1 (ints ([F]))) := Lib.hid (own_one hg)
        have HBT : Hid (Below (wo.heap.size + 1) (wo.alloc (.cells #[.int .i64 x.std, .int .i64 x.set, .int .i64 x.save, .string x.fmt, .int .i64 x.til] 46)) ((wo.alloc (.cells #[.int .i64 x.std, .int .i64 x.set, .int .i64 x.save, .string x.fmt, .int .i64 x.til] 46)).alloc (.cells #[.int .i64 F] 3))) := Lib.hid ((Below.refl _ _).alloc (by simp) _)
        clear hg x0 x1 x2 x3 x4
        try clear q0 q1 q2 q3 q4
        refine (sort_own HT.out (by omega)).mono ?_
        rintro e ws ⟨rfl, hs1, hsg⟩
        have HBS : Hid (Below (wo.heap.size + 1) (wo.alloc (.cells #[.int .i64 x.std, .int .i64 x.set, .int .i64 x.save, .string x.fmt, .int .i64 x.til] 46)) ws) := Lib.hid (HBT.out.grown hsg (by have := HBT.out.size; simp at this ⊢ <;> omega) (fun k hk => by injection hk with hk; omega))
        clear hsg
        go_wp2_with fail
        refine (compact_own hs1 (by omega)).mono ?_
        rintro e wk ⟨rfl, hk1, hkg⟩
        have HBK : Hid (Below (wo.heap.size + 1) (wo.alloc (.cells #[.int .i64 x.std, .int .i64 x.set, .int .i64 x.save, .string x.fmt, .int .i64 x.til] 46)) wk) := Lib.hid (HBS.out.grown hkg (by have := HBS.out.size; simp at this ⊢ <;> omega) (fun k hk => by injection hk with hk; omega))
        clear hkg hs1
        have HCUT : Hid (Go.Lib.compact (sortI [F]) = cutsE d x F) := Lib.hid (by rw [HTE.out]; rfl)
        obtain ⟨CS, hCS⟩ : ∃ v, v = Go.Lib.compact (sortI [F]) := ⟨_, rfl⟩
        rw [← hCS] at hk1 HCUT
        rw [← hCS]
        clear hCS
        obtain ⟨M, hM2⟩ : ∃ v, v = CS.length := ⟨_, rfl⟩
        rw [← hM2] at hk1
        rw [← hM2]
        have hMb : M ≤ 241 := by rw [hM2, HCUT.out]; exact HCL.out x F
        have HCS : Hid (∀ i, i < M → ∃ c, CS[i]? = some c ∧ ∀ W : World, W.heap[g]? = wk.heap[g]? → W.cell? ⟨g, i, none⟩ = some (.int .i64 c)) := Lib.hid (fun i hi => by
          have hq := List.getElem?_eq_getElem (l := CS) (i := i) (by omega)
          refine ⟨_, hq, fun W hW => ?_⟩
          have h9 := hk1.cells (g := g) rfl i (.int .i64 CS[i]) (by unfold ints; simp [hM2] at hi ⊢ <;> omega)
          have hadd : (⟨g, 0, none⟩ : Addr).add i = ⟨g, i, none⟩ := by unfold Addr.add; split <;> simp_all
          rw [hadd] at h9
          exact (World.cell?_of_block (a := ⟨g, i, none⟩) hW).trans h9)
        have HGL : Hid (g < wk.heap.size) := Lib.hid (hk1.lt g rfl).2
        have HML := Lib.hid hM2
        clear hk1 hM2
        go_wp2_with fail
        go_loopw [8, 90] (fun b8 b90 wr4 => ∃ (i : Nat) (v : Value), i ≤ M ∧ b90 = .int .i64 i ∧ v = b8 ∧ Hid (wr4.ownsRow (w.heap.size + 1) 56 4 v ((CS.take i).foldl (pushT d x) (compUpTo d es2 j)).length (tns ((CS.take i).foldl (pushT d x) (compUpTo d es2 j)))) ∧ Hid (∀ k, v.ownBlock = some k → k ≠ wo.heap.size ∧ k ≠ g) ∧ Hid (BoxB d w wr4) ∧ Hid (wr4.heap[wo.heap.size]? = some (.cells #[.int .i64 x.std, .int .i64 x.set, .int .i64 x.save, .string x.fmt, .int .i64 x.til] 46)) ∧ Hid (wr4.heap[g]? = wk.heap[g]?)) (fun _ b90 _ => M - (intOf b90).toNat)
        case atStart =>
          exact ⟨0, v0, Nat.zero_le _, rfl, rfl, Lib.hid (own_of_below (hown.out.alloc _) HBK.out (by simp)), Lib.hid (fun k hk => by have := (hown.out.lt k hk).2; omega), Lib.hid (HX.out _ HBK.out).1, Lib.hid ((HBK.out.block _ (by simp)).trans (World.alloc_heap_new _ _)), Lib.hid rfl⟩
        case round =>
          obtain ⟨i, v, hi, rfl, rfl, hown, haw, hb4, hx4, hg4⟩ := hrel
          obtain ⟨wy, hwr⟩ : ∃ v : World, v = wr := ⟨_, rfl⟩
          rw [← hwr] at hown hb4 hx4 hg4
          rw [← hwr]
          clear hwr
          by_cases hiM : i < M
          · obtain ⟨c, hc, hcr⟩ := HCS.out i hiM
            have e0 := hcr _ hg4.out
            obtain ⟨c0, c1, c2⟩ := HDC.out _ hb4.out
            obtain ⟨q0, q1, q2, q3, q4⟩ := HXH.out _ hx4.out
            have HFT := Lib.hid (fold_take (f := pushT d x) (b := compUpTo d es2 j) hc)
            have HHo := Lib.hid (fun W (hb : BoxB d w W) => HHC.out x c W hb hxo hxf)
            have HPY := Lib.hid (fun out => pushT_yes (d := d) (x := x) (out := out) (t := c))
            have HPN := Lib.hid (fun out => pushT_no (d := d) (x := x) (out := out) (t := c))
            obtain ⟨TT, hTT⟩ : ∃ v, v = offTo d x c := ⟨_, rfl⟩
            obtain ⟨SS, hSS⟩ : ∃ v, v = offSv d x c := ⟨_, rfl⟩
            obtain ⟨AB, hAB⟩ : ∃ v, v = offAb d x c := ⟨_, rfl⟩
            rw [← hTT, ← hSS, ← hAB] at HHo HPY HPN
            obtain ⟨L, hL⟩ : ∃ v, v = (CS.take i).foldl (pushT d x) (compUpTo d es2 j) := ⟨_, rfl⟩
            have hLb : L.length ≤ 1205 := by
              have h1 := push_len (d := d) (x := x) (CS.take i) (compUpTo d es2 j)
              rw [← hL, List.length_take] at h1
              omega
            rw [← hL] at hown HFT
            obtain ⟨LN, hLN⟩ : ∃ v, v = L.length := ⟨_, rfl⟩
            rw [← hLN] at hown hLb
            have HLN := Lib.hid hLN
            obtain ⟨A4, cap4, rfl, hturn⟩ := turns_shape hown.out
            have HTU := Lib.hid hturn
            clear hc hcr hTT hSS hAB hL hturn hLN
            go_wp2_with fail
            refine (HHo.out _ hb4.out).mono ?_
            rintro e w5 ⟨rfl, h5⟩
            clear e0 c0 c1 c2 q0 q1 q2 q3 q4
            have hz5 := h5.size
            have HOW6 : Hid ((w5.alloc (.cells #[.int .i64 TT, .int .i64 SS, .string AB] 28)).ownsRow (w.heap.size + 1) 56 4 (.slice A4 LN cap4) (LN) (tns (L))) := Lib.hid ((own_of_below hown.out h5 (Nat.le_refl _)).alloc _)
            have HB6 : Hid (BoxB d w (w5.alloc (.cells #[.int .i64 TT, .int .i64 SS, .string AB] 28))) := Lib.hid (Below.alloc (hb4.out.trans (h5.mono (by have := hb4.out.size; simpa using this))) (by have := hb4.out.size; simp at this ⊢ <;> omega) _)
            have HX6 : Hid ((w5.alloc (.cells #[.int .i64 TT, .int .i64 SS, .string AB] 28)).heap[wo.heap.size]? = some (.cells #[.int .i64 x.std, .int .i64 x.set, .int .i64 x.save, .string x.fmt, .int .i64 x.til] 46)) := Lib.hid (heap_alloc_keep (heap_below_keep hx4.out h5))
            have HG6 : Hid ((w5.alloc (.cells #[.int .i64 TT, .int .i64 SS, .string AB] 28)).heap[g]? = wk.heap[g]?) := Lib.hid (heap_alloc_keep' (heap_below_keep' hg4.out h5 HGL.out) HGL.out)
            have HY6 : Hid (∀ p y, L[p]? = some y → ∃ go, A4 = some ⟨go, 0, none⟩ ∧ TnAt (w5.alloc (.cells #[.int .i64 TT, .int .i64 SS, .string AB] 28)) go (p * 4) y) := Lib.hid (fun p y hp => by
              obtain ⟨go, e, hgo⟩ := HTU.out p y hp
              exact ⟨go, e, tn_alloc (tn_below hgo h5)⟩)
            have hob : (w5.alloc (.cells #[.int .i64 TT, .int .i64 SS, .string AB] 28)).heap[w5.heap.size]? = some (.cells #[.int .i64 TT, .int .i64 SS, .string AB] 28) := World.alloc_heap_new _ _
            have o0 : (w5.alloc (.cells #[.int .i64 TT, .int .i64 SS, .string AB] 28)).cell? ⟨w5.heap.size, 0, none⟩ = some (.int .i64 TT) := cell_of hob rfl
            have o1 : (w5.alloc (.cells #[.int .i64 TT, .int .i64 SS, .string AB] 28)).cell? ⟨w5.heap.size, 1, none⟩ = some (.int .i64 SS) := cell_of hob rfl
            have o2' : (w5.alloc (.cells #[.int .i64 TT, .int .i64 SS, .string AB] 28)).cell? ⟨w5.heap.size, 2, none⟩ = some (.string AB) := cell_of hob rfl
            clear hob h5
            go_wp2_with fail
            obtain ⟨w6, hw6⟩ : ∃ v : World, v = w5.alloc (.cells #[.int .i64 TT, .int .i64 SS, .string AB] 28) := ⟨_, rfl⟩
            rw [← hw6] at HOW6 HB6 HX6 HG6 HY6 o0 o1 o2'
            rw [← hw6]
            clear hw6
            by_cases hLn : LN = 0
            · subst hLn
              have hL0 : L = [] := List.eq_nil_of_length_eq_zero HLN.out.symm
              have hla : lastIs L TT SS AB = false := by rw [hL0]; exact lastIs_none
              have HPL := Lib.hid (HPN.out L hla)
              clear hL0 hla HY6
              go_quiet (fail)
              obtain ⟨wz, hwz⟩ : ∃ v : World, v = w6.drewN nq := ⟨_, rfl⟩
              have HOWZ : Hid (wz.ownsRow (w.heap.size + 1) 56 4 (.slice A4 0 cap4) (0) (tns (L))) := Lib.hid (by rw [hwz]; exact HOW6.out)
              have HBZ : Hid (BoxB d w wz) := Lib.hid (by rw [hwz]; exact below_drewN HB6.out _)
              have HXZ : Hid (wz.heap[wo.heap.size]? = some (.cells #[.int .i64 x.std, .int .i64 x.set, .int .i64 x.save, .string x.fmt, .int .i64 x.til] 46)) := Lib.hid (by rw [hwz]; exact HX6.out)
              have HGZ : Hid (wz.heap[g]? = wk.heap[g]?) := Lib.hid (by rw [hwz]; exact HG6.out)
              have p0 : wz.cell? ⟨w5.heap.size, 0, none⟩ = some (.int .i64 TT) := by rw [hwz]; exact o0
              have p1 : wz.cell? ⟨w5.heap.size, 1, none⟩ = some (.int .i64 SS) := by rw [hwz]; exact o1
              have p2 : wz.cell? ⟨w5.heap.size, 2, none⟩ = some (.string AB) := by rw [hwz]; exact o2'
              rw [← hwz]
              clear hwz o0 o1 o2'
              go_wp2_with (
                (at_builtin; go_must (refine wpList_app2 rfl _ _ 34 rfl (w.heap.size + 1) 56 (.agg #[.int .i64 0, .int .i64 0, .int .i64 0, .string ⟨#[]⟩]) 4 40 Tryz.underlying34 infoTurn rfl (by decide) _ (0) _ rfl (HOWZ.out.alloc (.cells #[.int .i64 c, .int .i64 TT, .int .i64 SS, .string AB] 56)) ⟨wz.heap.size, 0, none⟩ 1 1 (tnCells ⟨c, TT, SS, AB⟩) rfl rfl (laid_at (cs := #[.int .i64 c, .int .i64 TT, .int .i64 SS, .string AB])) (by intro u hu; simp [tnCells] at hu; rcases hu with rfl | rfl | rfl | rfl <;> rfl) (by unfold maxLen; omega) (by omega) (by have := HBZ.out.size; simp at this ⊢ <;> omega) ?_); intro v' w7 hown7 hg7 hn7))
              have HRN : Hid (w7.ownsRow (w.heap.size + 1) 56 4 v' ((CS.take (i + 1)).foldl (pushT d x) (compUpTo d es2 j)).length (tns ((CS.take (i + 1)).foldl (pushT d x) (compUpTo d es2 j)))) := Lib.hid (by
                rw [HFT.out, HPL.out, tns_app, show (L ++ [(⟨c, TT, SS, AB⟩ : Tn)]).length = 0 + 1 by rw [List.length_append, ← HLN.out]; rfl]
                exact hown7)
              have HBN : Hid (BoxB d w w7) := Lib.hid ((HBZ.out.alloc (by have := HBZ.out.size; simp at this ⊢ <;> omega) (.cells #[.int .i64 c, .int .i64 TT, .int .i64 SS, .string AB] 56)).grown hg7 (by have := HBZ.out.size; simp at this ⊢ <;> omega) (fun k hk => ((HOWZ.out.alloc (.cells #[.int .i64 c, .int .i64 TT, .int .i64 SS, .string AB] 56)).lt k hk).1))
              have HXN : Hid (w7.heap[wo.heap.size]? = some (.cells #[.int .i64 x.std, .int .i64 x.set, .int .i64 x.save, .string x.fmt, .int .i64 x.til] 46)) := Lib.hid ((hg7.block _ (by have := (Array.getElem?_eq_some_iff.1 HXZ.out).1; simp; omega) (fun e => (haw.out _ e.symm).1 rfl)).trans (heap_alloc_keep HXZ.out))
              have HGN : Hid (w7.heap[g]? = wk.heap[g]?) := Lib.hid ((hg7.block _ (by have := lt_of_heap HGZ.out HGL.out; simp; omega) (fun e => (haw.out _ e.symm).2 rfl)).trans (heap_alloc_keep' HGZ.out HGL.out))
              have HAN : Hid (∀ k, v'.ownBlock = some k → k ≠ wo.heap.size ∧ k ≠ g) := Lib.hid (fun k hk => by
                rcases hn7 with h | h
                · exact haw.out k (h ▸ hk)
                · have := h k hk
                  have h8 := (Array.getElem?_eq_some_iff.1 HXZ.out).1
                  have h9 := lt_of_heap HGZ.out HGL.out
                  simp at this
                  omega)
              clear hg7 hn7 hown7
              try go_wp2
              go_roundw
              case rel => exact ⟨i + 1, v', by omega, by go_num, rfl, HRN, HAN, HBN, HXN, HGN⟩
              case measure => simp [intOf]; omega
            · obtain ⟨p, hp⟩ : ∃ p, LN = p + 1 := ⟨LN - 1, by omega⟩
              subst hp
              have hyq := List.getElem?_eq_getElem (l := L) (i := p) (by have := HLN.out; omega)
              obtain ⟨y, hyy⟩ : ∃ y, y = L[p]'(by have := HLN.out; omega) := ⟨_, rfl⟩
              rw [← hyy] at hyq
              obtain ⟨go, hA4, hgo⟩ := HY6.out p y hyq
              have HLS := Lib.hid (lastIs_some hyq HLN.out TT SS AB)
              subst hA4
              obtain ⟨y0, y1, y2, y3⟩ := hgo
              have gq : (((p : Int) + 1) == 0) = false := by simp; omega
              have gw : IntKind.i64.wrap (p : Int) = (p : Int) := wrap_small (by omega) (by omega)
              have gw2 : IntKind.i64.wrap ((p : Int) + 1 - 1) = (p : Int) := by rw [show (p : Int) + 1 - 1 = p by omega]; exact gw
              have gl : (p : Int) < (p : Int) + 1 := by omega
              clear hyq hyy HY6
              cases e1 : (y.tt == TT)
              · have HPL := Lib.hid (HPN.out L (by rw [HLS.out, e1]; rfl))
                clear HLS
                go_quiet (fail)
                obtain ⟨wz, hwz⟩ : ∃ v : World, v = w6.drewN nq := ⟨_, rfl⟩
                have HOWZ : Hid (wz.ownsRow (w.heap.size + 1) 56 4 (.slice (some ⟨go, 0, none⟩) (p + 1) cap4) (p + 1) (tns (L))) := Lib.hid (by rw [hwz]; exact HOW6.out)
                have HBZ : Hid (BoxB d w wz) := Lib.hid (by rw [hwz]; exact below_drewN HB6.out _)
                have HXZ : Hid (wz.heap[wo.heap.size]? = some (.cells #[.int .i64 x.std, .int .i64 x.set, .int .i64 x.save, .string x.fmt, .int .i64 x.til] 46)) := Lib.hid (by rw [hwz]; exact HX6.out)
                have HGZ : Hid (wz.heap[g]? = wk.heap[g]?) := Lib.hid (by rw [hwz]; exact HG6.out)
                have p0 : wz.cell? ⟨w5.heap.size, 0, none⟩ = some (.int .i64 TT) := by rw [hwz]; exact o0
                have p1 : wz.cell? ⟨w5.heap.size, 1, none⟩ = some (.int .i64 SS) := by rw [hwz]; exact o1
                have p2 : wz.cell? ⟨w5.heap.size, 2, none⟩ = some (.string AB) := by rw [hwz]; exact o2'
                rw [← hwz]
                clear hwz o0 o1 o2'
                go_wp2_with (
                  (at_builtin; go_must (refine wpList_app2 rfl _ _ 34 rfl (w.heap.size + 1) 56 (.agg #[.int .i64 0, .int .i64 0, .int .i64 0, .string ⟨#[]⟩]) 4 40 Tryz.underlying34 infoTurn rfl (by decide) _ (p + 1) _ rfl (HOWZ.out.alloc (.cells #[.int .i64 c, .int .i64 TT, .int .i64 SS, .string AB] 56)) ⟨wz.heap.size, 0, none⟩ 1 1 (tnCells ⟨c, TT, SS, AB⟩) rfl rfl (laid_at (cs := #[.int .i64 c, .int .i64 TT, .int .i64 SS, .string AB])) (by intro u hu; simp [tnCells] at hu; rcases hu with rfl | rfl | rfl | rfl <;> rfl) (by unfold maxLen; omega) (by omega) (by have := HBZ.out.size; simp at this ⊢ <;> omega) ?_); intro v' w7 hown7 hg7 hn7))
                have HRN : Hid (w7.ownsRow (w.heap.size + 1) 56 4 v' ((CS.take (i + 1)).foldl (pushT d x) (compUpTo d es2 j)).length (tns ((CS.take (i + 1)).foldl (pushT d x) (compUpTo d es2 j)))) := Lib.hid (by
                  rw [HFT.out, HPL.out, tns_app, show (L ++ [(⟨c, TT, SS, AB⟩ : Tn)]).length = p + 1 + 1 by rw [List.length_append, ← HLN.out]; rfl]
                  exact hown7)
                have HBN : Hid (BoxB d w w7) := Lib.hid ((HBZ.out.alloc (by have := HBZ.out.size; simp at this ⊢ <;> omega) (.cells #[.int .i64 c, .int .i64 TT, .int .i64 SS, .string AB] 56)).grown hg7 (by have := HBZ.out.size; simp at this ⊢ <;> omega) (fun k hk => ((HOWZ.out.alloc (.cells #[.int .i64 c, .int .i64 TT, .int .i64 SS, .string AB] 56)).lt k hk).1))
                have HXN : Hid (w7.heap[wo.heap.size]? = some (.cells #[.int .i64 x.std, .int .i64 x.set, .int .i64 x.save, .string x.fmt, .int .i64 x.til] 46)) := Lib.hid ((hg7.block _ (by have := (Array.getElem?_eq_some_iff.1 HXZ.out).1; simp; omega) (fun e => (haw.out _ e.symm).1 rfl)).trans (heap_alloc_keep HXZ.out))
                have HGN : Hid (w7.heap[g]? = wk.heap[g]?) := Lib.hid ((hg7.block _ (by have := lt_of_heap HGZ.out HGL.out; simp; omega) (fun e => (haw.out _ e.symm).2 rfl)).trans (heap_alloc_keep' HGZ.out HGL.out))
                have HAN : Hid (∀ k, v'.ownBlock = some k → k ≠ wo.heap.size ∧ k ≠ g) := Lib.hid (fun k hk => by
                  rcases hn7 with h | h
                  · exact haw.out k (h ▸ hk)
                  · have := h k hk
                    have h8 := (Array.getElem?_eq_some_iff.1 HXZ.out).1
                    have h9 := lt_of_heap HGZ.out HGL.out
                    simp at this
                    omega)
                clear hg7 hn7 hown7
                try go_wp2
                go_roundw
                case rel => exact ⟨i + 1, v', by omega, by go_num, rfl, HRN, HAN, HBN, HXN, HGN⟩
                case measure => simp [intOf]; omega
              · cases e2 : (y.sv == SS)
                · have HPL := Lib.hid (HPN.out L (by rw [HLS.out, e1, e2]; rfl))
                  clear HLS
                  go_quiet (fail)
                  obtain ⟨wz, hwz⟩ : ∃ v : World, v = w6.drewN nq := ⟨_, rfl⟩
                  have HOWZ : Hid (wz.ownsRow (w.heap.size + 1) 56 4 (.slice (some ⟨go, 0, none⟩) (p + 1) cap4) (p + 1) (tns (L))) := Lib.hid (by rw [hwz]; exact HOW6.out)
                  have HBZ : Hid (BoxB d w wz) := Lib.hid (by rw [hwz]; exact below_drewN HB6.out _)
                  have HXZ : Hid (wz.heap[wo.heap.size]? = some (.cells #[.int .i64 x.std, .int .i64 x.set, .int .i64 x.save, .string x.fmt, .int .i64 x.til] 46)) := Lib.hid (by rw [hwz]; exact HX6.out)
                  have HGZ : Hid (wz.heap[g]? = wk.heap[g]?) := Lib.hid (by rw [hwz]; exact HG6.out)
                  have p0 : wz.cell? ⟨w5.heap.size, 0, none⟩ = some (.int .i64 TT) := by rw [hwz]; exact o0
                  have p1 : wz.cell? ⟨w5.heap.size, 1, none⟩ = some (.int .i64 SS) := by rw [hwz]; exact o1
                  have p2 : wz.cell? ⟨w5.heap.size, 2, none⟩ = some (.string AB) := by rw [hwz]; exact o2'
                  rw [← hwz]
                  clear hwz o0 o1 o2'
                  go_wp2_with (
                    (at_builtin; go_must (refine wpList_app2 rfl _ _ 34 rfl (w.heap.size + 1) 56 (.agg #[.int .i64 0, .int .i64 0, .int .i64 0, .string ⟨#[]⟩]) 4 40 Tryz.underlying34 infoTurn rfl (by decide) _ (p + 1) _ rfl (HOWZ.out.alloc (.cells #[.int .i64 c, .int .i64 TT, .int .i64 SS, .string AB] 56)) ⟨wz.heap.size, 0, none⟩ 1 1 (tnCells ⟨c, TT, SS, AB⟩) rfl rfl (laid_at (cs := #[.int .i64 c, .int .i64 TT, .int .i64 SS, .string AB])) (by intro u hu; simp [tnCells] at hu; rcases hu with rfl | rfl | rfl | rfl <;> rfl) (by unfold maxLen; omega) (by omega) (by have := HBZ.out.size; simp at this ⊢ <;> omega) ?_); intro v' w7 hown7 hg7 hn7))
                  have HRN : Hid (w7.ownsRow (w.heap.size + 1) 56 4 v' ((CS.take (i + 1)).foldl (pushT d x) (compUpTo d es2 j)).length (tns ((CS.take (i + 1)).foldl (pushT d x) (compUpTo d es2 j)))) := Lib.hid (by
                    rw [HFT.out, HPL.out, tns_app, show (L ++ [(⟨c, TT, SS, AB⟩ : Tn)]).length = p + 1 + 1 by rw [List.length_append, ← HLN.out]; rfl]
                    exact hown7)
                  have HBN : Hid (BoxB d w w7) := Lib.hid ((HBZ.out.alloc (by have := HBZ.out.size; simp at this ⊢ <;> omega) (.cells #[.int .i64 c, .int .i64 TT, .int .i64 SS, .string AB] 56)).grown hg7 (by have := HBZ.out.size; simp at this ⊢ <;> omega) (fun k hk => ((HOWZ.out.alloc (.cells #[.int .i64 c, .int .i64 TT, .int .i64 SS, .string AB] 56)).lt k hk).1))
                  have HXN : Hid (w7.heap[wo.heap.size]? = some (.cells #[.int .i64 x.std, .int .i64 x.set, .int .i64 x.save, .string x.fmt, .int .i64 x.til] 46)) := Lib.hid ((hg7.block _ (by have := (Array.getElem?_eq_some_iff.1 HXZ.out).1; simp; omega) (fun e => (haw.out _ e.symm).1 rfl)).trans (heap_alloc_keep HXZ.out))
                  have HGN : Hid (w7.heap[g]? = wk.heap[g]?) := Lib.hid ((hg7.block _ (by have := lt_of_heap HGZ.out HGL.out; simp; omega) (fun e => (haw.out _ e.symm).2 rfl)).trans (heap_alloc_keep' HGZ.out HGL.out))
                  have HAN : Hid (∀ k, v'.ownBlock = some k → k ≠ wo.heap.size ∧ k ≠ g) := Lib.hid (fun k hk => by
                    rcases hn7 with h | h
                    · exact haw.out k (h ▸ hk)
                    · have := h k hk
                      have h8 := (Array.getElem?_eq_some_iff.1 HXZ.out).1
                      have h9 := lt_of_heap HGZ.out HGL.out
                      simp at this
                      omega)
                  clear hg7 hn7 hown7
                  try go_wp2
                  go_roundw
                  case rel => exact ⟨i + 1, v', by omega, by go_num, rfl, HRN, HAN, HBN, HXN, HGN⟩
                  case measure => simp [intOf]; omega
                · cases e3 : (y.ab.toList == AB.toList)
                  · have HPL := Lib.hid (HPN.out L (by rw [HLS.out, e1, e2, e3]; rfl))
                    clear HLS
                    go_quiet (fail)
                    obtain ⟨wz, hwz⟩ : ∃ v : World, v = w6.drewN nq := ⟨_, rfl⟩
                    have HOWZ : Hid (wz.ownsRow (w.heap.size + 1) 56 4 (.slice (some ⟨go, 0, none⟩) (p + 1) cap4) (p + 1) (tns (L))) := Lib.hid (by rw [hwz]; exact HOW6.out)
                    have HBZ : Hid (BoxB d w wz) := Lib.hid (by rw [hwz]; exact below_drewN HB6.out _)
                    have HXZ : Hid (wz.heap[wo.heap.size]? = some (.cells #[.int .i64 x.std, .int .i64 x.set, .int .i64 x.save, .string x.fmt, .int .i64 x.til] 46)) := Lib.hid (by rw [hwz]; exact HX6.out)
                    have HGZ : Hid (wz.heap[g]? = wk.heap[g]?) := Lib.hid (by rw [hwz]; exact HG6.out)
                    have p0 : wz.cell? ⟨w5.heap.size, 0, none⟩ = some (.int .i64 TT) := by rw [hwz]; exact o0
                    have p1 : wz.cell? ⟨w5.heap.size, 1, none⟩ = some (.int .i64 SS) := by rw [hwz]; exact o1
                    have p2 : wz.cell? ⟨w5.heap.size, 2, none⟩ = some (.string AB) := by rw [hwz]; exact o2'
                    rw [← hwz]
                    clear hwz o0 o1 o2'
                    go_wp2_with (
                      (at_builtin; go_must (refine wpList_app2 rfl _ _ 34 rfl (w.heap.size + 1) 56 (.agg #[.int .i64 0, .int .i64 0, .int .i64 0, .string ⟨#[]⟩]) 4 40 Tryz.underlying34 infoTurn rfl (by decide) _ (p + 1) _ rfl (HOWZ.out.alloc (.cells #[.int .i64 c, .int .i64 TT, .int .i64 SS, .string AB] 56)) ⟨wz.heap.size, 0, none⟩ 1 1 (tnCells ⟨c, TT, SS, AB⟩) rfl rfl (laid_at (cs := #[.int .i64 c, .int .i64 TT, .int .i64 SS, .string AB])) (by intro u hu; simp [tnCells] at hu; rcases hu with rfl | rfl | rfl | rfl <;> rfl) (by unfold maxLen; omega) (by omega) (by have := HBZ.out.size; simp at this ⊢ <;> omega) ?_); intro v' w7 hown7 hg7 hn7))
                    have HRN : Hid (w7.ownsRow (w.heap.size + 1) 56 4 v' ((CS.take (i + 1)).foldl (pushT d x) (compUpTo d es2 j)).length (tns ((CS.take (i + 1)).foldl (pushT d x) (compUpTo d es2 j)))) := Lib.hid (by
                      rw [HFT.out, HPL.out, tns_app, show (L ++ [(⟨c, TT, SS, AB⟩ : Tn)]).length = p + 1 + 1 by rw [List.length_append, ← HLN.out]; rfl]
                      exact hown7)
                    have HBN : Hid (BoxB d w w7) := Lib.hid ((HBZ.out.alloc (by have := HBZ.out.size; simp at this ⊢ <;> omega) (.cells #[.int .i64 c, .int .i64 TT, .int .i64 SS, .string AB] 56)).grown hg7 (by have := HBZ.out.size; simp at this ⊢ <;> omega) (fun k hk => ((HOWZ.out.alloc (.cells #[.int .i64 c, .int .i64 TT, .int .i64 SS, .string AB] 56)).lt k hk).1))
                    have HXN : Hid (w7.heap[wo.heap.size]? = some (.cells #[.int .i64 x.std, .int .i64 x.set, .int .i64 x.save, .string x.fmt, .int .i64 x.til] 46)) := Lib.hid ((hg7.block _ (by have := (Array.getElem?_eq_some_iff.1 HXZ.out).1; simp; omega) (fun e => (haw.out _ e.symm).1 rfl)).trans (heap_alloc_keep HXZ.out))
                    have HGN : Hid (w7.heap[g]? = wk.heap[g]?) := Lib.hid ((hg7.block _ (by have := lt_of_heap HGZ.out HGL.out; simp; omega) (fun e => (haw.out _ e.symm).2 rfl)).trans (heap_alloc_keep' HGZ.out HGL.out))
                    have HAN : Hid (∀ k, v'.ownBlock = some k → k ≠ wo.heap.size ∧ k ≠ g) := Lib.hid (fun k hk => by
                      rcases hn7 with h | h
                      · exact haw.out k (h ▸ hk)
                      · have := h k hk
                        have h8 := (Array.getElem?_eq_some_iff.1 HXZ.out).1
                        have h9 := lt_of_heap HGZ.out HGL.out
                        simp at this
                        omega)
                    clear hg7 hn7 hown7
                    try go_wp2
                    go_roundw
                    case rel => exact ⟨i + 1, v', by omega, by go_num, rfl, HRN, HAN, HBN, HXN, HGN⟩
                    case measure => simp [intOf]; omega
                  · have HPL := Lib.hid (HPY.out L (by rw [HLS.out, e1, e2, e3]; rfl))
                    clear HLS
                    go_quiet (fail)
                    obtain ⟨wz, hwz⟩ : ∃ v : World, v = w6.drewN nq := ⟨_, rfl⟩
                    have HOWZ : Hid (wz.ownsRow (w.heap.size + 1) 56 4 (.slice (some ⟨go, 0, none⟩) (p + 1) cap4) (p + 1) (tns (L))) := Lib.hid (by rw [hwz]; exact HOW6.out)
                    have HBZ : Hid (BoxB d w wz) := Lib.hid (by rw [hwz]; exact below_drewN HB6.out _)
                    have HXZ : Hid (wz.heap[wo.heap.size]? = some (.cells #[.int .i64 x.std, .int .i64 x.set, .int .i64 x.save, .string x.fmt, .int .i64 x.til] 46)) := Lib.hid (by rw [hwz]; exact HX6.out)
                    have HGZ : Hid (wz.heap[g]? = wk.heap[g]?) := Lib.hid (by rw [hwz]; exact HG6.out)
                    have p0 : wz.cell? ⟨w5.heap.size, 0, none⟩ = some (.int .i64 TT) := by rw [hwz]; exact o0
                    have p1 : wz.cell? ⟨w5.heap.size, 1, none⟩ = some (.int .i64 SS) := by rw [hwz]; exact o1
                    have p2 : wz.cell? ⟨w5.heap.size, 2, none⟩ = some (.string AB) := by rw [hwz]; exact o2'
                    rw [← hwz]
                    clear hwz o0 o1 o2'
                    have HRN : Hid (wz.ownsRow (w.heap.size + 1) 56 4 (.slice (some ⟨go, 0, none⟩) (p + 1) cap4) ((CS.take (i + 1)).foldl (pushT d x) (compUpTo d es2 j)).length (tns ((CS.take (i + 1)).foldl (pushT d x) (compUpTo d es2 j)))) := Lib.hid (by
                      rw [HFT.out, HPL.out, ← HLN.out]
                      exact HOWZ.out)
                    go_wp2
                    go_roundw
                    case rel => exact ⟨i + 1, (.slice (some ⟨go, 0, none⟩) (p + 1) cap4), by omega, by go_num, rfl, HRN, haw, HBZ, HXZ, HGZ⟩
                    case measure => simp [intOf]; omega
          · have hiM2 : i = M := by omega
            have HTK : Hid ((CS.take i).foldl (pushT d x) (compUpTo d es2 j) = compUpTo d es2 (j + 1)) := Lib.hid (by
              rw [hiM2, HML.out, List.take_length, HST.out]
              unfold eraT
              rw [HCUT.out])
            obtain ⟨q0, q1, q2, q3, q4⟩ := HXH.out _ hx4.out
            clear hiM2
            go_wp2
            go_roundw
            case rel => exact ⟨j + 1, v, by omega, by go_num, by rw [HAH.out], rfl, by rw [← HTK.out]; exact hown, hb4⟩
            case measure => simp [intOf]; omega
      · obtain ⟨b5, o5, ⟨qn5, A6, n6, cap6, rs6⟩, hA5, hs5, hn6, hre6, hsc⟩ := HSET.out x (by omega) (by have := hxo.2.1; omega)
        have HTS0 := Lib.hid (timesE_set (d := d) (x := x) (f := F) (by omega) hs5)
        subst hA5
        have gs : decide ((0 : Int) ≤ x.set) = true := by simp; omega
        have HRS : Hid (∀ W, BoxB d w W → RulesAt W W.heap.size A6 n6 rs6) := Lib.hid (fun W h => (hsc W h).2)
        have HSC : Hid (∀ W, BoxB d w W → W.cell? ⟨b5, o5 + x.set.toNat * 2 + 1, none⟩ = some (.slice A6 n6 cap6)) := Lib.hid (fun W h => (hsc W h).1)
        have hl6 : rs6.length = n6 := (HRS.out _ hb.out).1
        replace hn6 : n6 ≤ 4 := hn6
        have HRE : Hid (∀ r ∈ rs6, r.e = 0) := Lib.hid hre6
        have hs0 : 0 ≤ x.set := by omega
        have hsn : x.set < d.sn := hxo.2.1.2
        have hst1 : -50400 ≤ x.std := hxo.1.1
        have hst2 : x.std ≤ 50400 := hxo.1.2
        have HTS : Hid (F :: timesS rs6 x.std F x.til n6 = timesE d x F) := Lib.hid (by rw [← hl6]; exact HTS0.out.symm)
        have HB1 : Hid (Below (wo.heap.size + 1) (wo.alloc (.cells #[.int .i64 x.std, .int .i64 x.set, .int .i64 x.save, .string x.fmt, .int .i64 x.til] 46)) ((wo.alloc (.cells #[.int .i64 x.std, .int .i64 x.set, .int .i64 x.save, .string x.fmt, .int .i64 x.til] 46)).alloc (.cells #[.int .i64 F] 3))) := Lib.hid ((Below.refl _ _).alloc (by simp) _)
        obtain ⟨c0, c1, c2⟩ := HDC.out _ (HX.out _ HB1.out).1
        have z1 := HSC.out _ (HX.out _ HB1.out).1
        clear HTS0 hs5 hre6 hsc
        go_wp2_with fail
        go_loopw [12, 54] (fun b12 b54 wr2 => ∃ (i N : Nat) (vt : Value), i ≤ n6 ∧ N ≤ 1 + 60 * i ∧ b54 = .int .i64 i ∧ vt = b12 ∧ Hid (wr2.ownsRow (wo.heap.size + 1) 3 1 vt N (ints (F :: timesS rs6 x.std F x.til i))) ∧ Hid (Below (wo.heap.size + 1) (wo.alloc (.cells #[.int .i64 x.std, .int .i64 x.set, .int .i64 x.save, .string x.fmt, .int .i64 x.til] 46)) wr2)) (fun _ b54 _ => n6 - (intOf b54).toNat)
        case atStart => exact ⟨0, 1, _, Nat.zero_le _, by omega, rfl, rfl, Lib.hid (own_one rfl), HB1⟩
        case round =>
          clear c0 c1 c2 z1 x0 x1 x2 x3 x4
          try clear q0 q1 q2 q3 q4
          obtain ⟨i, N, vt, hi, hN, rfl, rfl, hrow, hb2⟩ := hrel
          obtain ⟨wq, hwq⟩ : ∃ v : World, v = wr := ⟨_, rfl⟩
          rw [← hwq] at hrow hb2
          rw [← hwq]
          clear hwq
          by_cases hit : i < n6
          · obtain ⟨b7, o7, r, hA7, _, hr7, _, hrc⟩ := RulesAt.get (HRS.out _ (HX.out _ hb2.out).1) (i := i) hit
            obtain ⟨e0, e1, e2, e3, e4, e5, e6, e7, e8⟩ := hrc _ (Below.refl _ _)
            have hre := HRE.out r (List.mem_of_getElem? hr7)
            obtain ⟨⟨hfy, hty⟩, hyn⟩ := years_few hre
            obtain ⟨hB, _, _, hY⟩ := ruleE_zero hre
            obtain ⟨_, _, _, _, ⟨p6, p7⟩, _⟩ := (ruleBasic_iff _ _ _ _ _).1 hB
            have BGC : Hid (∀ y W, r.fy ≤ y → y ≤ r.ty → Calls Tryz.prog 33 #[.agg #[.int .i64 r.fy, .int .i64 r.ty, .int .i64 r.mo, .int .i64 r.k, .int .i64 r.wk, .int .i64 r.d, .int .i64 r.a, .int .i64 r.sv, .string r.le], .int .i64 y, .int .i64 x.std] W fun e w' => e = .returned (.int .i64 (r.g x.std y)) ∧ Below W.heap.size W w') := Lib.hid (fun y W h1 h2 => begin9_any r.fy r.ty r.mo r.k r.wk r.d r.a r.sv y x.std r.le W (hY y h1 h2) p6 p7 hst1 hst2)
            have HTY := Lib.hid (timesS_step (std := x.std) (f := F) (u := x.til) hr7)
            have hyr : yearsN r = (r.ty - r.fy + 1).toNat := rfl
            have HRH : Hid (∀ W : World, W.heap[wq.heap.size]? = some (.cells #[.int .i64 r.fy, .int .i64 r.ty, .int .i64 r.mo, .int .i64 r.k, .int .i64 r.wk, .int .i64 r.d, .int .i64 r.a, .int .i64 r.sv, .string r.le] 53) → (W.cell? ⟨wq.heap.size, 0, none⟩ = some (.int .i64 r.fy) ∧ W.cell? ⟨wq.heap.size, 1, none⟩ = some (.int .i64 r.ty) ∧ W.cell? ⟨wq.heap.size, 2, none⟩ = some (.int .i64 r.mo) ∧ W.cell? ⟨wq.heap.size, 3, none⟩ = some (.int .i64 r.k) ∧ W.cell? ⟨wq.heap.size, 4, none⟩ = some (.int .i64 r.wk) ∧ W.cell? ⟨wq.heap.size, 5, none⟩ = some (.int .i64 r.d) ∧ W.cell? ⟨wq.heap.size, 6, none⟩ = some (.int .i64 r.a) ∧ W.cell? ⟨wq.heap.size, 7, none⟩ = some (.int .i64 r.sv) ∧ W.cell? ⟨wq.heap.size, 8, none⟩ = some (.string r.le))) := Lib.hid (fun W k => ⟨cell_of k rfl, cell_of k rfl, cell_of k rfl, cell_of k rfl, cell_of k rfl, cell_of k rfl, cell_of k rfl, cell_of k rfl, cell_of k rfl⟩)
            subst hA7
            clear hrc hr7 hre hB hY p6 p7
            go_wp2_with fail
            go_loopw [12, 15] (fun b12 b15 wr3 => ∃ (k N3 : Nat) (vt3 : Value), k ≤ yearsN r ∧ N3 ≤ N + k ∧ b15 = .int .i64 (r.fy + k) ∧ vt3 = b12 ∧ Hid (wr3.ownsRow (wo.heap.size + 1) 3 1 vt3 N3 (ints (F :: timesS rs6 x.std F x.til i ++ timesY r x.std F x.til k))) ∧ Hid (Below (wo.heap.size + 1) (wo.alloc (.cells #[.int .i64 x.std, .int .i64 x.set, .int .i64 x.save, .string x.fmt, .int .i64 x.til] 46)) wr3) ∧ Hid (wr3.heap[wq.heap.size]? = some (.cells #[.int .i64 r.fy, .int .i64 r.ty, .int .i64 r.mo, .int .i64 r.k, .int .i64 r.wk, .int .i64 r.d, .int .i64 r.a, .int .i64 r.sv, .string r.le] 53)) ∧ Hid (∀ k, vt3.ownBlock = some k → k ≠ wq.heap.size)) (fun _ b15 _ => (2030 - intOf b15).toNat)
            case atStart => exact ⟨0, N, vt, Nat.zero_le _, by omega, by simp, rfl, Lib.hid (by rw [show F :: timesS rs6 x.std F x.til i ++ timesY r x.std F x.til 0 = F :: timesS rs6 x.std F x.til i from by simp [timesY]]; exact hrow.out.alloc _), Lib.hid (hb2.out.alloc (by have := hb2.out.size; simp at this ⊢ <;> omega) _), Lib.hid (World.alloc_heap_new _ _), Lib.hid (fun k hk => by have := (hrow.out.lt k hk).2; omega)⟩
            case round =>
              clear e0 e1 e2 e3 e4 e5 e6 e7 e8
              obtain ⟨k, N3, vt3, hk, hN3, rfl, rfl, hrow3, hb3, hh3, haw⟩ := hrel
              obtain ⟨wu, hwu⟩ : ∃ v : World, v = wr := ⟨_, rfl⟩
              rw [← hwu] at hrow3 hb3 hh3
              rw [← hwu]
              clear hwu
              obtain ⟨f0, f1, f2, f3, f4, f5, f6, f7, f8⟩ := HRH.out _ hh3.out
              by_cases hy : r.fy + (k : Int) ≤ r.ty
              · have gy : decide (r.fy + (k : Int) ≤ r.ty) = true := by simpa using hy
                obtain ⟨_, q0, q1, q2, q3, q4⟩ := HX.out _ hb3.out
                have HYY := Lib.hid (timesY_yes (r := r) (std := x.std) (f := F) (u := x.til) (k := k))
                have HYN := Lib.hid (timesY_no (r := r) (std := x.std) (f := F) (u := x.til) (k := k))
                have BG1 := Lib.hid (BGC.out (r.fy + (k : Int)) wu (by omega) hy)
                obtain ⟨G, hG⟩ : ∃ v, v = r.g x.std (r.fy + (k : Int)) := ⟨_, rfl⟩
                rw [← hG] at HYY HYN BG1
                clear hG
                go_wp2_with fail
                refine BG1.out.mono ?_
                rintro e w4 ⟨rfl, h4⟩
                clear f0 f1 f2 f3 f4 f5 f6 f7 f8 q0 q1 q2 q3 q4
                have hb4 := hb3.out.trans (h4.mono (by have := hb3.out.size; simpa using this))
                obtain ⟨_, q0, q1, q2, q3, q4⟩ := HX.out _ hb4
                have HB4 := Lib.hid hb4
                have hrow4 := own_of_below hrow3.out h4 (Nat.le_refl _)
                have HH4 := Lib.hid (heap_below_keep hh3.out h4)
                clear hb4 h4
                by_cases h1 : F < G
                · have g1 : decide (F < G) = true := by simpa using h1
                  by_cases h2 : G < x.til
                  · have g2 : decide (G < x.til) = true := by simpa using h2
                    have HQ := Lib.hid (HYY.out (by unfold inE; rw [g1, g2]; rfl))
                    clear HYY HYN h1 h2
                    go_wp2_with (
                      (at_builtin; go_must (refine wpList_app2 rfl _ _ 71 rfl (wo.heap.size + 1) 3 (.int .i64 0) 1 8 Tryz.underlying71 infoInt rfl (by decide) _ N3 _ rfl (hrow4.alloc (.cells #[.int .i64 G] 3)) ⟨w4.heap.size, 0, none⟩ 1 1 [.int .i64 G] rfl rfl (laid_at (cs := #[.int .i64 G])) (by intro u hu; simp at hu; subst hu; rfl) (by unfold maxLen; omega) (by omega) (by have := HB4.out.size; simp at this ⊢ <;> omega) ?_); intro v' w7 hown7 hg7 hn7))
                    have hrn : w7.ownsRow (wo.heap.size + 1) 3 1 v' (N3 + 1) (ints (F :: timesS rs6 x.std F x.til i ++ timesY r x.std F x.til (k + 1))) := by
                      rw [HQ.out]
                      have e9 : ints (F :: timesS rs6 x.std F x.til i ++ (timesY r x.std F x.til k ++ [G])) = ints (F :: timesS rs6 x.std F x.til i ++ timesY r x.std F x.til k) ++ [.int .i64 G] := by simp [ints]
                      rw [e9]; exact hown7
                    have hbn : Below (wo.heap.size + 1) (wo.alloc (.cells #[.int .i64 x.std, .int .i64 x.set, .int .i64 x.save, .string x.fmt, .int .i64 x.til] 46)) w7 := (HB4.out.alloc (by have := HB4.out.size; simp at this ⊢ <;> omega) (.cells #[.int .i64 G] 3)).grown hg7 (by have := HB4.out.size; simp at this ⊢ <;> omega) (fun k hk => ((hrow4.alloc (.cells #[.int .i64 G] 3)).lt k hk).1)
                    have hhn : w7.heap[wq.heap.size]? = some (.cells #[.int .i64 r.fy, .int .i64 r.ty, .int .i64 r.mo, .int .i64 r.k, .int .i64 r.wk, .int .i64 r.d, .int .i64 r.a, .int .i64 r.sv, .string r.le] 53) := (hg7.block _ (by have := (Array.getElem?_eq_some_iff.1 HH4.out).1; simp; omega) (fun e => haw.out _ e.symm rfl)).trans (heap_alloc_keep HH4.out)
                    have han : ∀ k, v'.ownBlock = some k → k ≠ wq.heap.size := fun k hk => by
                      rcases hn7 with h | h
                      · exact haw.out k (h ▸ hk)
                      · have := h k hk
                        have h9 := (Array.getElem?_eq_some_iff.1 HH4.out).1
                        simp at this
                        omega
                    have HRN := Lib.hid hrn
                    have HBN := Lib.hid hbn
                    have HHN := Lib.hid hhn
                    have HAN := Lib.hid han
                    clear hrn hbn hhn han hg7 hn7 hown7 hrow4
                    try go_wp2
                    go_roundw
                    case rel => exact ⟨k + 1, N3 + 1, v', by omega, by omega, by go_num, rfl, HRN, HBN, HHN, HAN⟩
                    case measure => simp [intOf]; omega
                  · have g2 : decide (G < x.til) = false := by simpa using h2
                    have HQ := Lib.hid (HYN.out (by unfold inE; rw [g1, g2]; rfl))
                    clear HYY HYN h1 h2
                    go_wp2
                    go_roundw
                    case rel => exact ⟨k + 1, N3, vt3, by omega, by omega, by go_num, rfl, Lib.hid (by rw [HQ.out]; exact hrow4), HB4, HH4, haw⟩
                    case measure => simp [intOf]; omega
                · have g1 : decide (F < G) = false := by simpa using h1
                  have HQ := Lib.hid (HYN.out (by unfold inE; rw [g1]; rfl))
                  clear HYY HYN h1
                  go_wp2
                  go_roundw
                  case rel => exact ⟨k + 1, N3, vt3, by omega, by omega, by go_num, rfl, Lib.hid (by rw [HQ.out]; exact hrow4), HB4, HH4, haw⟩
                  case measure => simp [intOf]; omega
              · have gy : decide (r.fy + (k : Int) ≤ r.ty) = false := by simpa using hy
                have hkk : k = yearsN r := by omega
                have HQ : Hid (F :: timesS rs6 x.std F x.til i ++ timesY r x.std F x.til k = F :: timesS rs6 x.std F x.til (i + 1)) := Lib.hid (by rw [HTY.out, hkk]; rfl)
                clear hkk
                go_wp2
                go_roundw
                case rel => exact ⟨i + 1, N3, vt3, by omega, by omega, by go_num, rfl, Lib.hid (by rw [← HQ.out]; exact hrow3.out), hb3⟩
                case measure => simp [intOf]; omega
          · have hin : i = n6 := by omega
            have HTE0 : Hid (F :: timesS rs6 x.std F x.til i = timesE d x F) := Lib.hid (by rw [hin]; exact HTS.out)
            obtain ⟨zs, hzs⟩ : ∃ v, v = F :: timesS rs6 x.std F x.til i := ⟨_, rfl⟩
            have hzp : 0 < zs.length := by rw [hzs]; simp
            rw [← hzs] at hrow HTE0
            have HTE := HTE0
            obtain ⟨g, cap3, hvt, hgk⟩ := row_shape hrow.out hzp
            subst hvt
            have HT := hrow
            have HBT := hb2
            clear hzs hin hzp hrow
            go_wp2_with fail
            refine (sort_own HT.out (by omega)).mono ?_
            rintro e ws ⟨rfl, hs1, hsg⟩
            have HBS : Hid (Below (wo.heap.size + 1) (wo.alloc (.cells #[.int .i64 x.std, .int .i64 x.set, .int .i64 x.save, .string x.fmt, .int .i64 x.til] 46)) ws) := Lib.hid (HBT.out.grown hsg (by have := HBT.out.size; simp at this ⊢ <;> omega) (fun k hk => by injection hk with hk; omega))
            clear hsg
            go_wp2_with fail
            refine (compact_own hs1 (by omega)).mono ?_
            rintro e wk ⟨rfl, hk1, hkg⟩
            have HBK : Hid (Below (wo.heap.size + 1) (wo.alloc (.cells #[.int .i64 x.std, .int .i64 x.set, .int .i64 x.save, .string x.fmt, .int .i64 x.til] 46)) wk) := Lib.hid (HBS.out.grown hkg (by have := HBS.out.size; simp at this ⊢ <;> omega) (fun k hk => by injection hk with hk; omega))
            clear hkg hs1
            have HCUT : Hid (Go.Lib.compact (sortI zs) = cutsE d x F) := Lib.hid (by rw [HTE.out]; rfl)
            obtain ⟨CS, hCS⟩ : ∃ v, v = Go.Lib.compact (sortI zs) := ⟨_, rfl⟩
            rw [← hCS] at hk1 HCUT
            rw [← hCS]
            clear hCS
            obtain ⟨M, hM2⟩ : ∃ v, v = CS.length := ⟨_, rfl⟩
            rw [← hM2] at hk1
            rw [← hM2]
            have hMb : M ≤ 241 := by rw [hM2, HCUT.out]; exact HCL.out x F
            have HCS : Hid (∀ i, i < M → ∃ c, CS[i]? = some c ∧ ∀ W : World, W.heap[g]? = wk.heap[g]? → W.cell? ⟨g, i, none⟩ = some (.int .i64 c)) := Lib.hid (fun i hi => by
              have hq := List.getElem?_eq_getElem (l := CS) (i := i) (by omega)
              refine ⟨_, hq, fun W hW => ?_⟩
              have h9 := hk1.cells (g := g) rfl i (.int .i64 CS[i]) (by unfold ints; simp [hM2] at hi ⊢ <;> omega)
              have hadd : (⟨g, 0, none⟩ : Addr).add i = ⟨g, i, none⟩ := by unfold Addr.add; split <;> simp_all
              rw [hadd] at h9
              exact (World.cell?_of_block (a := ⟨g, i, none⟩) hW).trans h9)
            have HGL : Hid (g < wk.heap.size) := Lib.hid (hk1.lt g rfl).2
            have HML := Lib.hid hM2
            clear hk1 hM2
            go_wp2_with fail
            go_loopw [8, 90] (fun b8 b90 wr4 => ∃ (i : Nat) (v : Value), i ≤ M ∧ b90 = .int .i64 i ∧ v = b8 ∧ Hid (wr4.ownsRow (w.heap.size + 1) 56 4 v ((CS.take i).foldl (pushT d x) (compUpTo d es2 j)).length (tns ((CS.take i).foldl (pushT d x) (compUpTo d es2 j)))) ∧ Hid (∀ k, v.ownBlock = some k → k ≠ wo.heap.size ∧ k ≠ g) ∧ Hid (BoxB d w wr4) ∧ Hid (wr4.heap[wo.heap.size]? = some (.cells #[.int .i64 x.std, .int .i64 x.set, .int .i64 x.save, .string x.fmt, .int .i64 x.til] 46)) ∧ Hid (wr4.heap[g]? = wk.heap[g]?)) (fun _ b90 _ => M - (intOf b90).toNat)
            case atStart =>
              exact ⟨0, v0, Nat.zero_le _, rfl, rfl, Lib.hid (own_of_below (hown.out.alloc _) HBK.out (by simp)), Lib.hid (fun k hk => by have := (hown.out.lt k hk).2; omega), Lib.hid (HX.out _ HBK.out).1, Lib.hid ((HBK.out.block _ (by simp)).trans (World.alloc_heap_new _ _)), Lib.hid rfl⟩
            case round =>
              obtain ⟨i, v, hi, rfl, rfl, hown, haw, hb4, hx4, hg4⟩ := hrel
              obtain ⟨wy, hwr⟩ : ∃ v : World, v = wr := ⟨_, rfl⟩
              rw [← hwr] at hown hb4 hx4 hg4
              rw [← hwr]
              clear hwr
              by_cases hiM : i < M
              · obtain ⟨c, hc, hcr⟩ := HCS.out i hiM
                have e0 := hcr _ hg4.out
                obtain ⟨c0, c1, c2⟩ := HDC.out _ hb4.out
                obtain ⟨q0, q1, q2, q3, q4⟩ := HXH.out _ hx4.out
                have HFT := Lib.hid (fold_take (f := pushT d x) (b := compUpTo d es2 j) hc)
                have HHo := Lib.hid (fun W (hb : BoxB d w W) => HHC.out x c W hb hxo hxf)
                have HPY := Lib.hid (fun out => pushT_yes (d := d) (x := x) (out := out) (t := c))
                have HPN := Lib.hid (fun out => pushT_no (d := d) (x := x) (out := out) (t := c))
                obtain ⟨TT, hTT⟩ : ∃ v, v = offTo d x c := ⟨_, rfl⟩
                obtain ⟨SS, hSS⟩ : ∃ v, v = offSv d x c := ⟨_, rfl⟩
                obtain ⟨AB, hAB⟩ : ∃ v, v = offAb d x c := ⟨_, rfl⟩
                rw [← hTT, ← hSS, ← hAB] at HHo HPY HPN
                obtain ⟨L, hL⟩ : ∃ v, v = (CS.take i).foldl (pushT d x) (compUpTo d es2 j) := ⟨_, rfl⟩
                have hLb : L.length ≤ 1205 := by
                  have h1 := push_len (d := d) (x := x) (CS.take i) (compUpTo d es2 j)
                  rw [← hL, List.length_take] at h1
                  omega
                rw [← hL] at hown HFT
                obtain ⟨LN, hLN⟩ : ∃ v, v = L.length := ⟨_, rfl⟩
                rw [← hLN] at hown hLb
                have HLN := Lib.hid hLN
                obtain ⟨A4, cap4, rfl, hturn⟩ := turns_shape hown.out
                have HTU := Lib.hid hturn
                clear hc hcr hTT hSS hAB hL hturn hLN
                go_wp2_with fail
                refine (HHo.out _ hb4.out).mono ?_
                rintro e w5 ⟨rfl, h5⟩
                clear e0 c0 c1 c2 q0 q1 q2 q3 q4
                have hz5 := h5.size
                have HOW6 : Hid ((w5.alloc (.cells #[.int .i64 TT, .int .i64 SS, .string AB] 28)).ownsRow (w.heap.size + 1) 56 4 (.slice A4 LN cap4) (LN) (tns (L))) := Lib.hid ((own_of_below hown.out h5 (Nat.le_refl _)).alloc _)
                have HB6 : Hid (BoxB d w (w5.alloc (.cells #[.int .i64 TT, .int .i64 SS, .string AB] 28))) := Lib.hid (Below.alloc (hb4.out.trans (h5.mono (by have := hb4.out.size; simpa using this))) (by have := hb4.out.size; simp at this ⊢ <;> omega) _)
                have HX6 : Hid ((w5.alloc (.cells #[.int .i64 TT, .int .i64 SS, .string AB] 28)).heap[wo.heap.size]? = some (.cells #[.int .i64 x.std, .int .i64 x.set, .int .i64 x.save, .string x.fmt, .int .i64 x.til] 46)) := Lib.hid (heap_alloc_keep (heap_below_keep hx4.out h5))
                have HG6 : Hid ((w5.alloc (.cells #[.int .i64 TT, .int .i64 SS, .string AB] 28)).heap[g]? = wk.heap[g]?) := Lib.hid (heap_alloc_keep' (heap_below_keep' hg4.out h5 HGL.out) HGL.out)
                have HY6 : Hid (∀ p y, L[p]? = some y → ∃ go, A4 = some ⟨go, 0, none⟩ ∧ TnAt (w5.alloc (.cells #[.int .i64 TT, .int .i64 SS, .string AB] 28)) go (p * 4) y) := Lib.hid (fun p y hp => by
                  obtain ⟨go, e, hgo⟩ := HTU.out p y hp
                  exact ⟨go, e, tn_alloc (tn_below hgo h5)⟩)
                have hob : (w5.alloc (.cells #[.int .i64 TT, .int .i64 SS, .string AB] 28)).heap[w5.heap.size]? = some (.cells #[.int .i64 TT, .int .i64 SS, .string AB] 28) := World.alloc_heap_new _ _
                have o0 : (w5.alloc (.cells #[.int .i64 TT, .int .i64 SS, .string AB] 28)).cell? ⟨w5.heap.size, 0, none⟩ = some (.int .i64 TT) := cell_of hob rfl
                have o1 : (w5.alloc (.cells #[.int .i64 TT, .int .i64 SS, .string AB] 28)).cell? ⟨w5.heap.size, 1, none⟩ = some (.int .i64 SS) := cell_of hob rfl
                have o2' : (w5.alloc (.cells #[.int .i64 TT, .int .i64 SS, .string AB] 28)).cell? ⟨w5.heap.size, 2, none⟩ = some (.string AB) := cell_of hob rfl
                clear hob h5
                go_wp2_with fail
                obtain ⟨w6, hw6⟩ : ∃ v : World, v = w5.alloc (.cells #[.int .i64 TT, .int .i64 SS, .string AB] 28) := ⟨_, rfl⟩
                rw [← hw6] at HOW6 HB6 HX6 HG6 HY6 o0 o1 o2'
                rw [← hw6]
                clear hw6
                by_cases hLn : LN = 0
                · subst hLn
                  have hL0 : L = [] := List.eq_nil_of_length_eq_zero HLN.out.symm
                  have hla : lastIs L TT SS AB = false := by rw [hL0]; exact lastIs_none
                  have HPL := Lib.hid (HPN.out L hla)
                  clear hL0 hla HY6
                  go_quiet (fail)
                  obtain ⟨wz, hwz⟩ : ∃ v : World, v = w6.drewN nq := ⟨_, rfl⟩
                  have HOWZ : Hid (wz.ownsRow (w.heap.size + 1) 56 4 (.slice A4 0 cap4) (0) (tns (L))) := Lib.hid (by rw [hwz]; exact HOW6.out)
                  have HBZ : Hid (BoxB d w wz) := Lib.hid (by rw [hwz]; exact below_drewN HB6.out _)
                  have HXZ : Hid (wz.heap[wo.heap.size]? = some (.cells #[.int .i64 x.std, .int .i64 x.set, .int .i64 x.save, .string x.fmt, .int .i64 x.til] 46)) := Lib.hid (by rw [hwz]; exact HX6.out)
                  have HGZ : Hid (wz.heap[g]? = wk.heap[g]?) := Lib.hid (by rw [hwz]; exact HG6.out)
                  have p0 : wz.cell? ⟨w5.heap.size, 0, none⟩ = some (.int .i64 TT) := by rw [hwz]; exact o0
                  have p1 : wz.cell? ⟨w5.heap.size, 1, none⟩ = some (.int .i64 SS) := by rw [hwz]; exact o1
                  have p2 : wz.cell? ⟨w5.heap.size, 2, none⟩ = some (.string AB) := by rw [hwz]; exact o2'
                  rw [← hwz]
                  clear hwz o0 o1 o2'
                  go_wp2_with (
                    (at_builtin; go_must (refine wpList_app2 rfl _ _ 34 rfl (w.heap.size + 1) 56 (.agg #[.int .i64 0, .int .i64 0, .int .i64 0, .string ⟨#[]⟩]) 4 40 Tryz.underlying34 infoTurn rfl (by decide) _ (0) _ rfl (HOWZ.out.alloc (.cells #[.int .i64 c, .int .i64 TT, .int .i64 SS, .string AB] 56)) ⟨wz.heap.size, 0, none⟩ 1 1 (tnCells ⟨c, TT, SS, AB⟩) rfl rfl (laid_at (cs := #[.int .i64 c, .int .i64 TT, .int .i64 SS, .string AB])) (by intro u hu; simp [tnCells] at hu; rcases hu with rfl | rfl | rfl | rfl <;> rfl) (by unfold maxLen; omega) (by omega) (by have := HBZ.out.size; simp at this ⊢ <;> omega) ?_); intro v' w7 hown7 hg7 hn7))
                  have HRN : Hid (w7.ownsRow (w.heap.size + 1) 56 4 v' ((CS.take (i + 1)).foldl (pushT d x) (compUpTo d es2 j)).length (tns ((CS.take (i + 1)).foldl (pushT d x) (compUpTo d es2 j)))) := Lib.hid (by
                    rw [HFT.out, HPL.out, tns_app, show (L ++ [(⟨c, TT, SS, AB⟩ : Tn)]).length = 0 + 1 by rw [List.length_append, ← HLN.out]; rfl]
                    exact hown7)
                  have HBN : Hid (BoxB d w w7) := Lib.hid ((HBZ.out.alloc (by have := HBZ.out.size; simp at this ⊢ <;> omega) (.cells #[.int .i64 c, .int .i64 TT, .int .i64 SS, .string AB] 56)).grown hg7 (by have := HBZ.out.size; simp at this ⊢ <;> omega) (fun k hk => ((HOWZ.out.alloc (.cells #[.int .i64 c, .int .i64 TT, .int .i64 SS, .string AB] 56)).lt k hk).1))
                  have HXN : Hid (w7.heap[wo.heap.size]? = some (.cells #[.int .i64 x.std, .int .i64 x.set, .int .i64 x.save, .string x.fmt, .int .i64 x.til] 46)) := Lib.hid ((hg7.block _ (by have := (Array.getElem?_eq_some_iff.1 HXZ.out).1; simp; omega) (fun e => (haw.out _ e.symm).1 rfl)).trans (heap_alloc_keep HXZ.out))
                  have HGN : Hid (w7.heap[g]? = wk.heap[g]?) := Lib.hid ((hg7.block _ (by have := lt_of_heap HGZ.out HGL.out; simp; omega) (fun e => (haw.out _ e.symm).2 rfl)).trans (heap_alloc_keep' HGZ.out HGL.out))
                  have HAN : Hid (∀ k, v'.ownBlock = some k → k ≠ wo.heap.size ∧ k ≠ g) := Lib.hid (fun k hk => by
                    rcases hn7 with h | h
                    · exact haw.out k (h ▸ hk)
                    · have := h k hk
                      have h8 := (Array.getElem?_eq_some_iff.1 HXZ.out).1
                      have h9 := lt_of_heap HGZ.out HGL.out
                      simp at this
                      omega)
                  clear hg7 hn7 hown7
                  try go_wp2
                  go_roundw
                  case rel => exact ⟨i + 1, v', by omega, by go_num, rfl, HRN, HAN, HBN, HXN, HGN⟩
                  case measure => simp [intOf]; omega
                · obtain ⟨p, hp⟩ : ∃ p, LN = p + 1 := ⟨LN - 1, by omega⟩
                  subst hp
                  have hyq := List.getElem?_eq_getElem (l := L) (i := p) (by have := HLN.out; omega)
                  obtain ⟨y, hyy⟩ : ∃ y, y = L[p]'(by have := HLN.out; omega) := ⟨_, rfl⟩
                  rw [← hyy] at hyq
                  obtain ⟨go, hA4, hgo⟩ := HY6.out p y hyq
                  have HLS := Lib.hid (lastIs_some hyq HLN.out TT SS AB)
                  subst hA4
                  obtain ⟨y0, y1, y2, y3⟩ := hgo
                  have gq : (((p : Int) + 1) == 0) = false := by simp; omega
                  have gw : IntKind.i64.wrap (p : Int) = (p : Int) := wrap_small (by omega) (by omega)
                  have gw2 : IntKind.i64.wrap ((p : Int) + 1 - 1) = (p : Int) := by rw [show (p : Int) + 1 - 1 = p by omega]; exact gw
                  have gl : (p : Int) < (p : Int) + 1 := by omega
                  clear hyq hyy HY6
                  cases e1 : (y.tt == TT)
                  · have HPL := Lib.hid (HPN.out L (by rw [HLS.out, e1]; rfl))
                    clear HLS
                    go_quiet (fail)
                    obtain ⟨wz, hwz⟩ : ∃ v : World, v = w6.drewN nq := ⟨_, rfl⟩
                    have HOWZ : Hid (wz.ownsRow (w.heap.size + 1) 56 4 (.slice (some ⟨go, 0, none⟩) (p + 1) cap4) (p + 1) (tns (L))) := Lib.hid (by rw [hwz]; exact HOW6.out)
                    have HBZ : Hid (BoxB d w wz) := Lib.hid (by rw [hwz]; exact below_drewN HB6.out _)
                    have HXZ : Hid (wz.heap[wo.heap.size]? = some (.cells #[.int .i64 x.std, .int .i64 x.set, .int .i64 x.save, .string x.fmt, .int .i64 x.til] 46)) := Lib.hid (by rw [hwz]; exact HX6.out)
                    have HGZ : Hid (wz.heap[g]? = wk.heap[g]?) := Lib.hid (by rw [hwz]; exact HG6.out)
                    have p0 : wz.cell? ⟨w5.heap.size, 0, none⟩ = some (.int .i64 TT) := by rw [hwz]; exact o0
                    have p1 : wz.cell? ⟨w5.heap.size, 1, none⟩ = some (.int .i64 SS) := by rw [hwz]; exact o1
                    have p2 : wz.cell? ⟨w5.heap.size, 2, none⟩ = some (.string AB) := by rw [hwz]; exact o2'
                    rw [← hwz]
                    clear hwz o0 o1 o2'
                    go_wp2_with (
                      (at_builtin; go_must (refine wpList_app2 rfl _ _ 34 rfl (w.heap.size + 1) 56 (.agg #[.int .i64 0, .int .i64 0, .int .i64 0, .string ⟨#[]⟩]) 4 40 Tryz.underlying34 infoTurn rfl (by decide) _ (p + 1) _ rfl (HOWZ.out.alloc (.cells #[.int .i64 c, .int .i64 TT, .int .i64 SS, .string AB] 56)) ⟨wz.heap.size, 0, none⟩ 1 1 (tnCells ⟨c, TT, SS, AB⟩) rfl rfl (laid_at (cs := #[.int .i64 c, .int .i64 TT, .int .i64 SS, .string AB])) (by intro u hu; simp [tnCells] at hu; rcases hu with rfl | rfl | rfl | rfl <;> rfl) (by unfold maxLen; omega) (by omega) (by have := HBZ.out.size; simp at this ⊢ <;> omega) ?_); intro v' w7 hown7 hg7 hn7))
                    have HRN : Hid (w7.ownsRow (w.heap.size + 1) 56 4 v' ((CS.take (i + 1)).foldl (pushT d x) (compUpTo d es2 j)).length (tns ((CS.take (i + 1)).foldl (pushT d x) (compUpTo d es2 j)))) := Lib.hid (by
                      rw [HFT.out, HPL.out, tns_app, show (L ++ [(⟨c, TT, SS, AB⟩ : Tn)]).length = p + 1 + 1 by rw [List.length_append, ← HLN.out]; rfl]
                      exact hown7)
                    have HBN : Hid (BoxB d w w7) := Lib.hid ((HBZ.out.alloc (by have := HBZ.out.size; simp at this ⊢ <;> omega) (.cells #[.int .i64 c, .int .i64 TT, .int .i64 SS, .string AB] 56)).grown hg7 (by have := HBZ.out.size; simp at this ⊢ <;> omega) (fun k hk => ((HOWZ.out.alloc (.cells #[.int .i64 c, .int .i64 TT, .int .i64 SS, .string AB] 56)).lt k hk).1))
                    have HXN : Hid (w7.heap[wo.heap.size]? = some (.cells #[.int .i64 x.std, .int .i64 x.set, .int .i64 x.save, .string x.fmt, .int .i64 x.til] 46)) := Lib.hid ((hg7.block _ (by have := (Array.getElem?_eq_some_iff.1 HXZ.out).1; simp; omega) (fun e => (haw.out _ e.symm).1 rfl)).trans (heap_alloc_keep HXZ.out))
                    have HGN : Hid (w7.heap[g]? = wk.heap[g]?) := Lib.hid ((hg7.block _ (by have := lt_of_heap HGZ.out HGL.out; simp; omega) (fun e => (haw.out _ e.symm).2 rfl)).trans (heap_alloc_keep' HGZ.out HGL.out))
                    have HAN : Hid (∀ k, v'.ownBlock = some k → k ≠ wo.heap.size ∧ k ≠ g) := Lib.hid (fun k hk => by
                      rcases hn7 with h | h
                      · exact haw.out k (h ▸ hk)
                      · have := h k hk
                        have h8 := (Array.getElem?_eq_some_iff.1 HXZ.out).1
                        have h9 := lt_of_heap HGZ.out HGL.out
                        simp at this
                        omega)
                    clear hg7 hn7 hown7
                    try go_wp2
                    go_roundw
                    case rel => exact ⟨i + 1, v', by omega, by go_num, rfl, HRN, HAN, HBN, HXN, HGN⟩
                    case measure => simp [intOf]; omega
                  · cases e2 : (y.sv == SS)
                    · have HPL := Lib.hid (HPN.out L (by rw [HLS.out, e1, e2]; rfl))
                      clear HLS
                      go_quiet (fail)
                      obtain ⟨wz, hwz⟩ : ∃ v : World, v = w6.drewN nq := ⟨_, rfl⟩
                      have HOWZ : Hid (wz.ownsRow (w.heap.size + 1) 56 4 (.slice (some ⟨go, 0, none⟩) (p + 1) cap4) (p + 1) (tns (L))) := Lib.hid (by rw [hwz]; exact HOW6.out)
                      have HBZ : Hid (BoxB d w wz) := Lib.hid (by rw [hwz]; exact below_drewN HB6.out _)
                      have HXZ : Hid (wz.heap[wo.heap.size]? = some (.cells #[.int .i64 x.std, .int .i64 x.set, .int .i64 x.save, .string x.fmt, .int .i64 x.til] 46)) := Lib.hid (by rw [hwz]; exact HX6.out)
                      have HGZ : Hid (wz.heap[g]? = wk.heap[g]?) := Lib.hid (by rw [hwz]; exact HG6.out)
                      have p0 : wz.cell? ⟨w5.heap.size, 0, none⟩ = some (.int .i64 TT) := by rw [hwz]; exact o0
                      have p1 : wz.cell? ⟨w5.heap.size, 1, none⟩ = some (.int .i64 SS) := by rw [hwz]; exact o1
                      have p2 : wz.cell? ⟨w5.heap.size, 2, none⟩ = some (.string AB) := by rw [hwz]; exact o2'
                      rw [← hwz]
                      clear hwz o0 o1 o2'
                      go_wp2_with (
                        (at_builtin; go_must (refine wpList_app2 rfl _ _ 34 rfl (w.heap.size + 1) 56 (.agg #[.int .i64 0, .int .i64 0, .int .i64 0, .string ⟨#[]⟩]) 4 40 Tryz.underlying34 infoTurn rfl (by decide) _ (p + 1) _ rfl (HOWZ.out.alloc (.cells #[.int .i64 c, .int .i64 TT, .int .i64 SS, .string AB] 56)) ⟨wz.heap.size, 0, none⟩ 1 1 (tnCells ⟨c, TT, SS, AB⟩) rfl rfl (laid_at (cs := #[.int .i64 c, .int .i64 TT, .int .i64 SS, .string AB])) (by intro u hu; simp [tnCells] at hu; rcases hu with rfl | rfl | rfl | rfl <;> rfl) (by unfold maxLen; omega) (by omega) (by have := HBZ.out.size; simp at this ⊢ <;> omega) ?_); intro v' w7 hown7 hg7 hn7))
                      have HRN : Hid (w7.ownsRow (w.heap.size + 1) 56 4 v' ((CS.take (i + 1)).foldl (pushT d x) (compUpTo d es2 j)).length (tns ((CS.take (i + 1)).foldl (pushT d x) (compUpTo d es2 j)))) := Lib.hid (by
                        rw [HFT.out, HPL.out, tns_app, show (L ++ [(⟨c, TT, SS, AB⟩ : Tn)]).length = p + 1 + 1 by rw [List.length_append, ← HLN.out]; rfl]
                        exact hown7)
                      have HBN : Hid (BoxB d w w7) := Lib.hid ((HBZ.out.alloc (by have := HBZ.out.size; simp at this ⊢ <;> omega) (.cells #[.int .i64 c, .int .i64 TT, .int .i64 SS, .string AB] 56)).grown hg7 (by have := HBZ.out.size; simp at this ⊢ <;> omega) (fun k hk => ((HOWZ.out.alloc (.cells #[.int .i64 c, .int .i64 TT, .int .i64 SS, .string AB] 56)).lt k hk).1))
                      have HXN : Hid (w7.heap[wo.heap.size]? = some (.cells #[.int .i64 x.std, .int .i64 x.set, .int .i64 x.save, .string x.fmt, .int .i64 x.til] 46)) := Lib.hid ((hg7.block _ (by have := (Array.getElem?_eq_some_iff.1 HXZ.out).1; simp; omega) (fun e => (haw.out _ e.symm).1 rfl)).trans (heap_alloc_keep HXZ.out))
                      have HGN : Hid (w7.heap[g]? = wk.heap[g]?) := Lib.hid ((hg7.block _ (by have := lt_of_heap HGZ.out HGL.out; simp; omega) (fun e => (haw.out _ e.symm).2 rfl)).trans (heap_alloc_keep' HGZ.out HGL.out))
                      have HAN : Hid (∀ k, v'.ownBlock = some k → k ≠ wo.heap.size ∧ k ≠ g) := Lib.hid (fun k hk => by
                        rcases hn7 with h | h
                        · exact haw.out k (h ▸ hk)
                        · have := h k hk
                          have h8 := (Array.getElem?_eq_some_iff.1 HXZ.out).1
                          have h9 := lt_of_heap HGZ.out HGL.out
                          simp at this
                          omega)
                      clear hg7 hn7 hown7
                      try go_wp2
                      go_roundw
                      case rel => exact ⟨i + 1, v', by omega, by go_num, rfl, HRN, HAN, HBN, HXN, HGN⟩
                      case measure => simp [intOf]; omega
                    · cases e3 : (y.ab.toList == AB.toList)
                      · have HPL := Lib.hid (HPN.out L (by rw [HLS.out, e1, e2, e3]; rfl))
                        clear HLS
                        go_quiet (fail)
                        obtain ⟨wz, hwz⟩ : ∃ v : World, v = w6.drewN nq := ⟨_, rfl⟩
                        have HOWZ : Hid (wz.ownsRow (w.heap.size + 1) 56 4 (.slice (some ⟨go, 0, none⟩) (p + 1) cap4) (p + 1) (tns (L))) := Lib.hid (by rw [hwz]; exact HOW6.out)
                        have HBZ : Hid (BoxB d w wz) := Lib.hid (by rw [hwz]; exact below_drewN HB6.out _)
                        have HXZ : Hid (wz.heap[wo.heap.size]? = some (.cells #[.int .i64 x.std, .int .i64 x.set, .int .i64 x.save, .string x.fmt, .int .i64 x.til] 46)) := Lib.hid (by rw [hwz]; exact HX6.out)
                        have HGZ : Hid (wz.heap[g]? = wk.heap[g]?) := Lib.hid (by rw [hwz]; exact HG6.out)
                        have p0 : wz.cell? ⟨w5.heap.size, 0, none⟩ = some (.int .i64 TT) := by rw [hwz]; exact o0
                        have p1 : wz.cell? ⟨w5.heap.size, 1, none⟩ = some (.int .i64 SS) := by rw [hwz]; exact o1
                        have p2 : wz.cell? ⟨w5.heap.size, 2, none⟩ = some (.string AB) := by rw [hwz]; exact o2'
                        rw [← hwz]
                        clear hwz o0 o1 o2'
                        go_wp2_with (
                          (at_builtin; go_must (refine wpList_app2 rfl _ _ 34 rfl (w.heap.size + 1) 56 (.agg #[.int .i64 0, .int .i64 0, .int .i64 0, .string ⟨#[]⟩]) 4 40 Tryz.underlying34 infoTurn rfl (by decide) _ (p + 1) _ rfl (HOWZ.out.alloc (.cells #[.int .i64 c, .int .i64 TT, .int .i64 SS, .string AB] 56)) ⟨wz.heap.size, 0, none⟩ 1 1 (tnCells ⟨c, TT, SS, AB⟩) rfl rfl (laid_at (cs := #[.int .i64 c, .int .i64 TT, .int .i64 SS, .string AB])) (by intro u hu; simp [tnCells] at hu; rcases hu with rfl | rfl | rfl | rfl <;> rfl) (by unfold maxLen; omega) (by omega) (by have := HBZ.out.size; simp at this ⊢ <;> omega) ?_); intro v' w7 hown7 hg7 hn7))
                        have HRN : Hid (w7.ownsRow (w.heap.size + 1) 56 4 v' ((CS.take (i + 1)).foldl (pushT d x) (compUpTo d es2 j)).length (tns ((CS.take (i + 1)).foldl (pushT d x) (compUpTo d es2 j)))) := Lib.hid (by
                          rw [HFT.out, HPL.out, tns_app, show (L ++ [(⟨c, TT, SS, AB⟩ : Tn)]).length = p + 1 + 1 by rw [List.length_append, ← HLN.out]; rfl]
                          exact hown7)
                        have HBN : Hid (BoxB d w w7) := Lib.hid ((HBZ.out.alloc (by have := HBZ.out.size; simp at this ⊢ <;> omega) (.cells #[.int .i64 c, .int .i64 TT, .int .i64 SS, .string AB] 56)).grown hg7 (by have := HBZ.out.size; simp at this ⊢ <;> omega) (fun k hk => ((HOWZ.out.alloc (.cells #[.int .i64 c, .int .i64 TT, .int .i64 SS, .string AB] 56)).lt k hk).1))
                        have HXN : Hid (w7.heap[wo.heap.size]? = some (.cells #[.int .i64 x.std, .int .i64 x.set, .int .i64 x.save, .string x.fmt, .int .i64 x.til] 46)) := Lib.hid ((hg7.block _ (by have := (Array.getElem?_eq_some_iff.1 HXZ.out).1; simp; omega) (fun e => (haw.out _ e.symm).1 rfl)).trans (heap_alloc_keep HXZ.out))
                        have HGN : Hid (w7.heap[g]? = wk.heap[g]?) := Lib.hid ((hg7.block _ (by have := lt_of_heap HGZ.out HGL.out; simp; omega) (fun e => (haw.out _ e.symm).2 rfl)).trans (heap_alloc_keep' HGZ.out HGL.out))
                        have HAN : Hid (∀ k, v'.ownBlock = some k → k ≠ wo.heap.size ∧ k ≠ g) := Lib.hid (fun k hk => by
                          rcases hn7 with h | h
                          · exact haw.out k (h ▸ hk)
                          · have := h k hk
                            have h8 := (Array.getElem?_eq_some_iff.1 HXZ.out).1
                            have h9 := lt_of_heap HGZ.out HGL.out
                            simp at this
                            omega)
                        clear hg7 hn7 hown7
                        try go_wp2
                        go_roundw
                        case rel => exact ⟨i + 1, v', by omega, by go_num, rfl, HRN, HAN, HBN, HXN, HGN⟩
                        case measure => simp [intOf]; omega
                      · have HPL := Lib.hid (HPY.out L (by rw [HLS.out, e1, e2, e3]; rfl))
                        clear HLS
                        go_quiet (fail)
                        obtain ⟨wz, hwz⟩ : ∃ v : World, v = w6.drewN nq := ⟨_, rfl⟩
                        have HOWZ : Hid (wz.ownsRow (w.heap.size + 1) 56 4 (.slice (some ⟨go, 0, none⟩) (p + 1) cap4) (p + 1) (tns (L))) := Lib.hid (by rw [hwz]; exact HOW6.out)
                        have HBZ : Hid (BoxB d w wz) := Lib.hid (by rw [hwz]; exact below_drewN HB6.out _)
                        have HXZ : Hid (wz.heap[wo.heap.size]? = some (.cells #[.int .i64 x.std, .int .i64 x.set, .int .i64 x.save, .string x.fmt, .int .i64 x.til] 46)) := Lib.hid (by rw [hwz]; exact HX6.out)
                        have HGZ : Hid (wz.heap[g]? = wk.heap[g]?) := Lib.hid (by rw [hwz]; exact HG6.out)
                        have p0 : wz.cell? ⟨w5.heap.size, 0, none⟩ = some (.int .i64 TT) := by rw [hwz]; exact o0
                        have p1 : wz.cell? ⟨w5.heap.size, 1, none⟩ = some (.int .i64 SS) := by rw [hwz]; exact o1
                        have p2 : wz.cell? ⟨w5.heap.size, 2, none⟩ = some (.string AB) := by rw [hwz]; exact o2'
                        rw [← hwz]
                        clear hwz o0 o1 o2'
                        have HRN : Hid (wz.ownsRow (w.heap.size + 1) 56 4 (.slice (some ⟨go, 0, none⟩) (p + 1) cap4) ((CS.take (i + 1)).foldl (pushT d x) (compUpTo d es2 j)).length (tns ((CS.take (i + 1)).foldl (pushT d x) (compUpTo d es2 j)))) := Lib.hid (by
                          rw [HFT.out, HPL.out, ← HLN.out]
                          exact HOWZ.out)
                        go_wp2
                        go_roundw
                        case rel => exact ⟨i + 1, (.slice (some ⟨go, 0, none⟩) (p + 1) cap4), by omega, by go_num, rfl, HRN, haw, HBZ, HXZ, HGZ⟩
                        case measure => simp [intOf]; omega
              · have hiM2 : i = M := by omega
                have HTK : Hid ((CS.take i).foldl (pushT d x) (compUpTo d es2 j) = compUpTo d es2 (j + 1)) := Lib.hid (by
                  rw [hiM2, HML.out, List.take_length, HST.out]
                  unfold eraT
                  rw [HCUT.out])
                obtain ⟨q0, q1, q2, q3, q4⟩ := HXH.out _ hx4.out
                clear hiM2
                go_wp2
                go_roundw
                case rel => exact ⟨j + 1, v, by omega, by go_num, by rw [HAH.out], rfl, by rw [← HTK.out]; exact hown, hb4⟩
                case measure => simp [intOf]; omega
    · have hjn : j = n2 := by omega
      have HTT : Hid (compUpTo d es2 j = compT d ⟨qn, some ⟨b2, o2, none⟩, n2, cap2, es2⟩) := Lib.hid (by unfold compT; rw [hjn, ← hEL.out])
      clear hjn
      go_wp2
      go_ret2
      exact ⟨v0, rfl, by rw [← HTT.out]; exact hown.out, (HN.out _ hb.out).1⟩
end Go.Proofs.YtlngalmdidaahaaGreatDoor
end
