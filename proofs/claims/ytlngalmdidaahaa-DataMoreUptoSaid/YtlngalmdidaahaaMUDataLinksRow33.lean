/- Parts of a proof, laid together. -/
import Derived.Test.YtlngalmdidaahaaMUDataLinksRow32
import Derived.Test.YtlngalmdidaahaaMUDataLinksRow23
set_option linter.unusedSimpArgs false
set_option linter.unusedVariables false
/-! The walk of DataMore. -/
section
set_option linter.unusedVariables false
namespace Go.Proofs.Ytlngalmdidaahaa
open Go.RowKit Gno
theorem more_next {d : Dt} {x : Lk} {w W w2 : World} {g cap : Nat} (hD : DataAt w w.heap.size d) (hx1 : x.name.size ≤ maxLen) (hx2 : x.to.size ≤ maxLen) (KB : Below w.heap.size w W) (KZ : W.heap.size = w.heap.size + 3)
    (K0 : W.heap[w.heap.size]? = some (.cells #[.slice d.sA d.sn d.sc, .slice d.zA d.zn d.zc, .slice d.lA d.ln d.lc] 26)) (K1 : W.heap[w.heap.size + 1]? = some (.cells #[.string x.name, .string x.to] 38)) (K2 : W.heap[w.heap.size + 1 + 1]? = some (.cells #[.slice d.sA d.sn d.sc, .slice d.zA d.zn d.zc, .slice d.lA d.ln d.lc] 26)) (hb2 : Below W.heap.size W w2)
    (hown : w2.ownsRow W.heap.size 38 2 (.slice (some ⟨g, 0, none⟩) (d.ln + 1) cap) (d.ln + 1) (lks (d.ls ++ [x]))) (hln : d.ln ≤ 1048576) {W' : World} (hb : Below (w2.setCell ⟨w.heap.size + 1 + 1, 2, none⟩ (.slice (some ⟨g, 0, none⟩) (d.ln + 1) cap)).heap.size (w2.setCell ⟨w.heap.size + 1 + 1, 2, none⟩ (.slice (some ⟨g, 0, none⟩) (d.ln + 1) cap)) W') :
    Below w.heap.size w W' ∧ DataAt W' W'.heap.size d ∧ DataAt W' W'.heap.size (moreD d (some ⟨g, 0, none⟩) cap x) ∧ (W'.cell? ⟨w.heap.size, 0, none⟩ = some (.slice d.sA d.sn d.sc) ∧ W'.cell? ⟨w.heap.size, 1, none⟩ = some (.slice d.zA d.zn d.zc) ∧ W'.cell? ⟨w.heap.size, 2, none⟩ = some (.slice d.lA d.ln d.lc)) ∧ (W'.cell? ⟨w.heap.size + 1, 0, none⟩ = some (.string x.name) ∧ W'.cell? ⟨w.heap.size + 1, 1, none⟩ = some (.string x.to)) ∧ (W'.cell? ⟨w.heap.size + 1 + 1, 0, none⟩ = some (.slice d.sA d.sn d.sc) ∧ W'.cell? ⟨w.heap.size + 1 + 1, 1, none⟩ = some (.slice d.zA d.zn d.zc) ∧ W'.cell? ⟨w.heap.size + 1 + 1, 2, none⟩ = some (.slice (some ⟨g, 0, none⟩) (d.ln + 1) cap)) := by
  have hz := hb2.size
  have hsz : (w2.setCell ⟨w.heap.size + 1 + 1, 2, none⟩ (.slice (some ⟨g, 0, none⟩) (d.ln + 1) cap)).heap.size = w2.heap.size := by simp
  have hl : LinksAt w2 w2.heap.size (some ⟨g, 0, none⟩) (d.ln + 1) (d.ls ++ [x]) := links_own hown (by unfold maxLen; omega) (fun y hy => by
    rcases List.mem_append.1 hy with h | h
    · obtain ⟨i, hi⟩ := List.getElem?_of_mem h
      have := (List.getElem?_eq_some_iff.1 hi).1
      obtain ⟨_, _, q, _, _, hq, q1, q2, _⟩ := links_get hD.2.2.1 (i := i) (by rw [← hD.2.2.1.1]; exact this)
      rw [hi] at hq
      injection hq with hq
      subst hq
      exact ⟨q1, q2⟩
    · obtain rfl := List.mem_singleton.1 h
      exact ⟨hx1, hx2⟩)
  have hgB : W.heap.size ≤ g := (hown.lt g rfl).1
  have b0 : Below (w.heap.size + 2) w2 (w2.setCell ⟨w.heap.size + 1 + 1, 2, none⟩ (.slice (some ⟨g, 0, none⟩) (d.ln + 1) cap)) := (Below.refl _ _).setCell (by simp) _
  have bw2 : Below w.heap.size w w2 := KB.trans (hb2.mono KB.size)
  have bw : Below w.heap.size w (w2.setCell ⟨w.heap.size + 1 + 1, 2, none⟩ (.slice (some ⟨g, 0, none⟩) (d.ln + 1) cap)) := bw2.trans (b0.mono (by omega))
  have bz : Below w.heap.size w W' := bw.trans (hb.mono (by rw [hsz]; omega))
  have k0 : W'.heap[w.heap.size]? = some (.cells #[.slice d.sA d.sn d.sc, .slice d.zA d.zn d.zc, .slice d.lA d.ln d.lc] 26) := (hb.block _ (by rw [hsz]; omega)).trans ((b0.block _ (by omega)).trans ((hb2.block _ (by omega)).trans K0))
  have k1 : W'.heap[w.heap.size + 1]? = some (.cells #[.string x.name, .string x.to] 38) := (hb.block _ (by rw [hsz]; omega)).trans ((b0.block _ (by omega)).trans ((hb2.block _ (by omega)).trans K1))
  have k2 : W'.heap[w.heap.size + 1 + 1]? = some (.cells #[.slice d.sA d.sn d.sc, .slice d.zA d.zn d.zc, .slice (some ⟨g, 0, none⟩) (d.ln + 1) cap] 26) :=
    (hb.block _ (by rw [hsz]; omega)).trans ((set_obj (o := 2) ((hb2.block _ (by omega)).trans K2) (.slice (some ⟨g, 0, none⟩) (d.ln + 1) cap)).trans rfl)
  have hlz : LinksAt (w2.setCell ⟨w.heap.size + 1 + 1, 2, none⟩ (.slice (some ⟨g, 0, none⟩) (d.ln + 1) cap)) (w2.setCell ⟨w.heap.size + 1 + 1, 2, none⟩ (.slice (some ⟨g, 0, none⟩) (d.ln + 1) cap)).heap.size (some ⟨g, 0, none⟩) (d.ln + 1) (d.ls ++ [x]) := by
    refine ⟨hl.1, hl.2.1, fun h0 => ?_⟩
    obtain ⟨b, o, hA, hbB, hc⟩ := hl.2.2 h0
    injection hA with hA
    injection hA with hb1 ho1 _
    subst hb1
    subst ho1
    refine ⟨g, 0, rfl, by rw [hsz]; exact hbB, fun i y hy => ?_⟩
    have h1 := hc i y hy
    have e : ∀ o, (w2.setCell ⟨w.heap.size + 1 + 1, 2, none⟩ (.slice (some ⟨g, 0, none⟩) (d.ln + 1) cap)).cell? ⟨g, o, none⟩ = w2.cell? ⟨g, o, none⟩ := fun o => World.cell?_of_block (Below.heap_setCell w2 ⟨w.heap.size + 1 + 1, 2, none⟩ _ g (by simp; omega))
    exact ⟨⟨(e _).trans h1.1.1, (e _).trans h1.1.2⟩, h1.2⟩
  have hDz := hD.next bz
  refine ⟨bz, hDz, ⟨hDz.1, hDz.2.1, ?_, ?_⟩, ⟨cell_of k0 rfl, cell_of k0 rfl, cell_of k0 rfl⟩, ⟨cell_of k1 rfl, cell_of k1 rfl⟩, cell_of k2 rfl, cell_of k2 rfl, cell_of k2 rfl⟩
  · exact SlAt.below (B := W'.heap.size) keeps_lk (SlAt.below keeps_lk hlz hb (Nat.le_refl _) |> fun h => SlAt.below (B' := W'.heap.size) keeps_lk h (Below.refl _ _) hb.size) (Below.refl _ _) (Nat.le_refl _)
  · show d.ln + 1 ≤ fmtMax
    unfold fmtMax; omega
set_option maxRecDepth 100000 in
set_option maxHeartbeats 8000000 in
theorem dataMore_walk (d : Dt) (nm : ByteArray) (x : Lk) (w : World) (hx1 : x.name.size ≤ maxLen) (hx2 : x.to.size ≤ maxLen) (hD : DataAt w w.heap.size d) (hM : MaxAt w w.heap.size) (hln : d.ln ≤ 1048576) (hAN : d.lA = none → d.ln = 0 ∧ d.lc = 0) :
    Calls Try.prog 5 #[d.val, .string nm, .agg #[.string x.name, .string x.to]] w fun e w' => e = .returned (.bool true) ∧ Below w.heap.size w w' := by
  have HD := Lib.hid hD
  have HM := Lib.hid hM
  have HA := Lib.hid hAN
  have HLN : Hid (d.ls.length = d.ln) := Lib.hid hD.2.2.1.1
  have k0 : (((w.alloc (.cells #[.slice d.sA d.sn d.sc, .slice d.zA d.zn d.zc, .slice d.lA d.ln d.lc] 26)).alloc (.cells #[.string x.name, .string x.to] 38)).alloc (.cells #[.slice d.sA d.sn d.sc, .slice d.zA d.zn d.zc, .slice d.lA d.ln d.lc] 26)).heap[w.heap.size]? = some (.cells #[.slice d.sA d.sn d.sc, .slice d.zA d.zn d.zc, .slice d.lA d.ln d.lc] 26) := by rw [push_past _ _ _ (by simp; omega), push_past _ _ _ (by simp), push_at _ _ _ rfl]
  have k1 : (((w.alloc (.cells #[.slice d.sA d.sn d.sc, .slice d.zA d.zn d.zc, .slice d.lA d.ln d.lc] 26)).alloc (.cells #[.string x.name, .string x.to] 38)).alloc (.cells #[.slice d.sA d.sn d.sc, .slice d.zA d.zn d.zc, .slice d.lA d.ln d.lc] 26)).heap[w.heap.size + 1]? = some (.cells #[.string x.name, .string x.to] 38) := by rw [push_past _ _ _ (by simp), push_at _ _ _ (by simp)]
  have k2 : (((w.alloc (.cells #[.slice d.sA d.sn d.sc, .slice d.zA d.zn d.zc, .slice d.lA d.ln d.lc] 26)).alloc (.cells #[.string x.name, .string x.to] 38)).alloc (.cells #[.slice d.sA d.sn d.sc, .slice d.zA d.zn d.zc, .slice d.lA d.ln d.lc] 26)).heap[w.heap.size + 1 + 1]? = some (.cells #[.slice d.sA d.sn d.sc, .slice d.zA d.zn d.zc, .slice d.lA d.ln d.lc] 26) := push_at _ _ _ (by simp)
  have kb : Below w.heap.size w (((w.alloc (.cells #[.slice d.sA d.sn d.sc, .slice d.zA d.zn d.zc, .slice d.lA d.ln d.lc] 26)).alloc (.cells #[.string x.name, .string x.to] 38)).alloc (.cells #[.slice d.sA d.sn d.sc, .slice d.zA d.zn d.zc, .slice d.lA d.ln d.lc] 26)) := ((((Below.refl w.heap.size w).alloc (Nat.le_refl _) _).alloc (by simp) _).alloc (by simp; omega) _)
  have kz : (((w.alloc (.cells #[.slice d.sA d.sn d.sc, .slice d.zA d.zn d.zc, .slice d.lA d.ln d.lc] 26)).alloc (.cells #[.string x.name, .string x.to] 38)).alloc (.cells #[.slice d.sA d.sn d.sc, .slice d.zA d.zn d.zc, .slice d.lA d.ln d.lc] 26)).heap.size = w.heap.size + 3 := by simp
  have K0 := Lib.hid k0
  have K1 := Lib.hid k1
  have K2 := Lib.hid k2
  have KB := Lib.hid kb
  have KZ := Lib.hid kz
  clear hD hM k0 k1 k2 kb kz hAN
  unfold Dt.val at *
  go_enter Try.func5, Try.ntmps5
  go_wp2_with fail
  obtain ⟨W, hW⟩ : ∃ W : World, W = (((w.alloc (.cells #[.slice d.sA d.sn d.sc, .slice d.zA d.zn d.zc, .slice d.lA d.ln d.lc] 26)).alloc (.cells #[.string x.name, .string x.to] 38)).alloc (.cells #[.slice d.sA d.sn d.sc, .slice d.zA d.zn d.zc, .slice d.lA d.ln d.lc] 26)) := ⟨_, rfl⟩
  rw [← hW] at K0 K1 K2 KB KZ
  rw [← hW]
  clear hW
  have HS : Hid (∀ W', Below W.heap.size W W' → W'.cell? ⟨w.heap.size, 0, none⟩ = some (.slice d.sA d.sn d.sc) ∧ W'.cell? ⟨w.heap.size, 1, none⟩ = some (.slice d.zA d.zn d.zc) ∧ W'.cell? ⟨w.heap.size, 2, none⟩ = some (.slice d.lA d.ln d.lc) ∧ W'.cell? ⟨w.heap.size + 1, 0, none⟩ = some (.string x.name) ∧ W'.cell? ⟨w.heap.size + 1, 1, none⟩ = some (.string x.to)) := Lib.hid (fun W' hb => by
    have kz := KZ.out
    have k0 := (hb.block _ (by omega)).trans K0.out
    have k1 := (hb.block _ (by omega)).trans K1.out
    exact ⟨cell_of k0 rfl, cell_of k0 rfl, cell_of k0 rfl, cell_of k1 rfl, cell_of k1 rfl⟩)
  have HF : Hid (∀ W', Below W.heap.size W W' → W'.cell? ⟨w.heap.size + 1 + 1, 2, none⟩ = some (.slice d.lA d.ln d.lc) ∧ W'.frozen? ⟨w.heap.size + 1 + 1, 2, none⟩ = false) := Lib.hid (fun W' hb => by
    have kz := KZ.out
    have k2 := (hb.block _ (by omega)).trans K2.out
    exact ⟨cell_of k2 rfl, frozen_of k2⟩)
  have HS3 : Hid (∀ W' v, Below W.heap.size W W' → (W'.setCell ⟨w.heap.size + 1 + 1, 2, none⟩ v).cell? ⟨w.heap.size, 0, none⟩ = some (.slice d.sA d.sn d.sc) ∧ (W'.setCell ⟨w.heap.size + 1 + 1, 2, none⟩ v).cell? ⟨w.heap.size, 1, none⟩ = some (.slice d.zA d.zn d.zc) ∧ (W'.setCell ⟨w.heap.size + 1 + 1, 2, none⟩ v).cell? ⟨w.heap.size, 2, none⟩ = some (.slice d.lA d.ln d.lc) ∧ (W'.setCell ⟨w.heap.size + 1 + 1, 2, none⟩ v).cell? ⟨w.heap.size + 1, 0, none⟩ = some (.string x.name) ∧ (W'.setCell ⟨w.heap.size + 1 + 1, 2, none⟩ v).cell? ⟨w.heap.size + 1, 1, none⟩ = some (.string x.to)) := Lib.hid (fun W' v hb => by
    obtain ⟨a, b, c, e, f⟩ := HS.out W' hb
    refine ⟨?_, ?_, ?_, ?_, ?_⟩ <;> (rw [World.cell?_setCell_far _ _ _ _ (by simp <;> omega)]; assumption))
  have HLK : Hid (∀ W', Below W.heap.size W W' → LinksAt W' W'.heap.size d.lA d.ln d.ls) := Lib.hid (fun W' hb => (HD.out.next (KB.out.trans (hb.mono KB.out.size))).2.2.1)
  have hbd : Below W.heap.size W W.drew := (Below.refl _ _).drew
  have hbA : Below W.heap.size W (W.alloc (.cells #[] 38)).drew := ((Below.refl _ _).alloc (Nat.le_refl _) _).drew
  have hbX : Below W.heap.size W (W.alloc (.cells #[.string x.name, .string x.to] 38)).drew := ((Below.refl _ _).alloc (Nat.le_refl _) _).drew
  have hbAX : Below W.heap.size W ((W.alloc (.cells #[] 38)).alloc (.cells #[.string x.name, .string x.to] 38)).drew := (((Below.refl _ _).alloc (Nat.le_refl _) _).alloc (by simp) _).drew
  have hbXA : Below W.heap.size W ((W.alloc (.cells #[.string x.name, .string x.to] 38)).alloc (.cells #[] 38)).drew := (((Below.refl _ _).alloc (Nat.le_refl _) _).alloc (by simp) _).drew
  have oA : (W.alloc (.cells #[] 38)).drew.ownsRow W.heap.size 38 2 (.slice (some ⟨W.heap.size, 0, none⟩) 0 0) 0 [] := own_drew (World.ownsRow_made W #[] 0 (Nat.le_refl _) (by decide) rfl)
  have oAX : ((W.alloc (.cells #[] 38)).alloc (.cells #[.string x.name, .string x.to] 38)).drew.ownsRow W.heap.size 38 2 (.slice (some ⟨W.heap.size, 0, none⟩) 0 0) 0 [] := own_drew ((World.ownsRow_made W #[] 0 (Nat.le_refl _) (by decide) rfl).alloc _)
  have oXA : ((W.alloc (.cells #[.string x.name, .string x.to] 38)).alloc (.cells #[] 38)).drew.ownsRow W.heap.size 38 2 (.slice (some ⟨W.heap.size + 1, 0, none⟩) 0 0) 0 [] := by
    have := World.ownsRow_made (base := W.heap.size) (e := 38) (size := 2) (W.alloc (.cells #[.string x.name, .string x.to] 38)) #[] 0 (by simp) (by decide) rfl
    rw [World.size_alloc] at this
    exact own_drew this
  have hbd := Lib.hid hbd
  have hbA := Lib.hid hbA
  have hbX := Lib.hid hbX
  have hbAX := Lib.hid hbAX
  have hbXA := Lib.hid hbXA
  have oA := Lib.hid oA
  have oXA := Lib.hid oXA
  have oAX := Lib.hid oAX
  refine wp_region_held_drew (S := (fun w' => w'.cell? ⟨w.heap.size, 0, none⟩ = some (.slice d.sA d.sn d.sc) ∧ w'.cell? ⟨w.heap.size, 1, none⟩ = some (.slice d.zA d.zn d.zc) ∧ w'.cell? ⟨w.heap.size, 2, none⟩ = some (.slice d.lA d.ln d.lc) ∧ w'.cell? ⟨w.heap.size + 1, 0, none⟩ = some (.string x.name) ∧ w'.cell? ⟨w.heap.size + 1, 1, none⟩ = some (.string x.to))) (by kernel_rfl) ?_ (fun hHeld => ?_)
  · exact HS.out _ hbd.out
  refine wpAnyH_take (i := 1) (oi := _) (v := ?_) rfl (by kernel_rfl) (by kernel_rfl) (by kernel_rfl) (fun _ _ _ h => h) (Or.inl ⟨by rfl, ?_⟩) (by assumption) ?_
  rotate_left
  · intro w hSw; (try dsimp only at hSw); (go_simp <;> with_reducible rfl)
  simp only [List.getElem_toArray, List.getElem_cons_zero, List.getElem_cons_succ, Act.put, List.setIfInBounds_toArray, List.set_cons_zero, List.set_cons_succ]
  refine wpAnyH_take (i := 2) (oi := _) (v := ?_) rfl (by kernel_rfl) (by kernel_rfl) (by kernel_rfl) (fun _ _ _ h => h) (Or.inl ⟨by rfl, ?_⟩) (by assumption) ?_
  rotate_left
  · intro w hSw; (try dsimp only at hSw); (go_simp <;> with_reducible rfl)
  simp only [List.getElem_toArray, List.getElem_cons_zero, List.getElem_cons_succ, Act.put, List.setIfInBounds_toArray, List.set_cons_zero, List.set_cons_succ]
  refine wpAnyH_take (i := 4) (oi := _) (v := ?_) rfl (by kernel_rfl) (by kernel_rfl) (by kernel_rfl) (fun _ _ _ h => h) (Or.inl ⟨by rfl, ?_⟩) (by assumption) ?_
  rotate_left
  · intro w hSw; (try dsimp only at hSw); (go_simp <;> with_reducible rfl)
  simp only [List.getElem_toArray, List.getElem_cons_zero, List.getElem_cons_succ, Act.put, List.setIfInBounds_toArray, List.set_cons_zero, List.set_cons_succ]
  refine wpAnyH_ready (rs := [0, 5]) (by kernel_rfl) (by simp) ?_
  refine (AllReadyH.cons (o := _) rfl (fun K hK => ?_) (AllReadyH.cons (o := _) rfl (fun K hK => ?_) AllReadyH.nil))
  · simp only [List.getElem_toArray, List.getElem_cons_zero, List.getElem_cons_succ]
    go_simp
    refine hK.out _ _ ?_ (fun hHeld => ?_)
    · exact HS.out _ hbA.out
    clear hK K
    try simp only [List.getElem_toArray, List.getElem_cons_zero, List.getElem_cons_succ, Act.put, List.setIfInBounds_toArray, List.set_cons_zero, List.set_cons_succ]
    refine wpAnyH_ready (rs := [3, 5]) (by kernel_rfl) (by simp) ?_
    refine (AllReadyH.cons (o := _) rfl (fun K hK => ?_) (AllReadyH.cons (o := _) rfl (fun K hK => ?_) AllReadyH.nil))
    · simp only [List.getElem_toArray, List.getElem_cons_zero, List.getElem_cons_succ]
      rw [if_pos (by rfl)]
      refine wp_app _ _ _ 24 rfl W.heap.size 38 (.agg #[.string ⟨#[]⟩, .string ⟨#[]⟩]) 2 32 Try.underlying24 infoLink rfl (by decide) _ 0 [] rfl (oA.out) d.lA d.ln d.lc (lks d.ls) rfl HA.out (by rw [lks_len, HLN.out]) (fun ad hA => lks_cells (HLK.out _ hbA.out) hA) lks_one (by unfold maxLen; omega) (by omega) (hbA.out).size ?_
      intro v1 w1 hown1 hg1 hn1
      have hg1 : World.grownBy _ w1 (some (W.heap.size)) := hg1
      have hb1 : Below W.heap.size W w1 := (hbA.out).grown hg1 (hbA.out).size (fun k hk => (World.ownsRow.lt (oA.out) k hk).1)
      refine hK.out _ _ ?_ (fun hHeld => ?_)
      · exact HS.out _ hb1
      clear hK K
      try simp only [List.getElem_toArray, List.getElem_cons_zero, List.getElem_cons_succ, Act.put, List.setIfInBounds_toArray, List.set_cons_zero, List.set_cons_succ]
      refine wpAnyH_ready (rs := [5]) (by kernel_rfl) (by simp) ?_
      refine (AllReadyH.cons (o := _) rfl (fun K hK => ?_) AllReadyH.nil)
      simp only [List.getElem_toArray, List.getElem_cons_zero, List.getElem_cons_succ]
      go_simp
      refine hK.out _ _ ?_ (fun hHeld => ?_)
      · exact HS.out _ (hb1.alloc hb1.size _)
      clear hK K
      try simp only [List.getElem_toArray, List.getElem_cons_zero, List.getElem_cons_succ, Act.put, List.setIfInBounds_toArray, List.set_cons_zero, List.set_cons_succ]
      refine wpAnyH_ready (rs := [6]) (by kernel_rfl) (by simp) ?_
      refine (AllReadyH.cons (o := _) rfl (fun K hK => ?_) AllReadyH.nil)
      simp only [List.getElem_toArray, List.getElem_cons_zero, List.getElem_cons_succ]
      rw [if_pos (by rfl)]
      refine wp_app _ _ _ 24 rfl W.heap.size 38 (.agg #[.string ⟨#[]⟩, .string ⟨#[]⟩]) 2 32 Try.underlying24 infoLink rfl (by decide) _ (0 + d.ln) _ rfl (hown1.alloc (.cells #[.string x.name, .string x.to] 38)) _ 1 1 (lks [x]) rfl (fun h => by cases h) rfl (fun ad hA => by obtain rfl := Option.some.inj hA; exact laid_at (cs := #[.string x.name, .string x.to])) lks_one (by unfold maxLen; omega) (by omega) (hb1.alloc hb1.size (.cells #[.string x.name, .string x.to] 38)).size ?_
      intro v2 w2 hown2 hg2 hn2
      have hb2 : Below W.heap.size W w2 := (hb1.alloc hb1.size (.cells #[.string x.name, .string x.to] 38)).grown hg2 (hb1.alloc hb1.size (.cells #[.string x.name, .string x.to] 38)).size (fun k hk => (World.ownsRow.lt (hown1.alloc (.cells #[.string x.name, .string x.to] 38)) k hk).1)
      obtain ⟨g, cap, rfl, hbg, hlt⟩ := hown2.form (by omega)
      refine hK.out _ _ ?_ (fun hHeld => ?_)
      · exact HS.out _ hb2
      clear hK K
      try simp only [List.getElem_toArray, List.getElem_cons_zero, List.getElem_cons_succ, Act.put, List.setIfInBounds_toArray, List.set_cons_zero, List.set_cons_succ]
      refine wpAnyH_take (i := 7) (oi := _) (v := ?_) rfl (by kernel_rfl) (by kernel_rfl) (by kernel_rfl) (fun _ _ _ h => h) (Or.inl ⟨by rfl, ?_⟩) (by assumption) ?_
      rotate_left
      · intro w hSw; (try dsimp only at hSw); (go_simp <;> with_reducible rfl)
      simp only [List.getElem_toArray, List.getElem_cons_zero, List.getElem_cons_succ, Act.put, List.setIfInBounds_toArray, List.set_cons_zero, List.set_cons_succ]
      refine wpAnyH_ready (rs := [8]) (by kernel_rfl) (by simp) ?_
      refine (AllReadyH.cons (o := _) rfl (fun K hK => ?_) AllReadyH.nil)
      obtain ⟨f0, f1⟩ := HF.out _ hb2
      simp only [List.getElem_toArray, List.getElem_cons_zero, List.getElem_cons_succ]
      go_simp
      refine hK.out _ _ ?_ (fun hHeld => ?_)
      · exact HS3.out _ _ hb2
      clear hK K
      try simp only [List.getElem_toArray, List.getElem_cons_zero, List.getElem_cons_succ, Act.put, List.setIfInBounds_toArray, List.set_cons_zero, List.set_cons_succ]
      refine wpAnyH_done (by kernel_rfl) ?_ _
      have hown3 : w2.ownsRow W.heap.size 38 2 (.slice (some ⟨g, 0, none⟩) (d.ln + 1) cap) (d.ln + 1) (lks (d.ls ++ [x])) := by
        have := hown2
        rw [Nat.zero_add, List.nil_append] at this
        rwa [show lks (d.ls ++ [x]) = lks d.ls ++ lks [x] by simp [lks]]
      have HZ := Lib.hid (fun W' hb => more_next (W' := W') HD.out hx1 hx2 KB.out KZ.out K0.out K1.out K2.out hb2 hown3 hln hb)
      try rw [Nat.zero_add]
      obtain ⟨Wz, hWz⟩ : ∃ Wz : World, Wz = (w2.setCell ⟨w.heap.size + 1 + 1, 2, none⟩ (.slice (some ⟨g, 0, none⟩) (d.ln + 1) cap)) := ⟨_, rfl⟩
      rw [← hWz] at HZ
      rw [← hWz]
      clear hWz hown3 hown2
      obtain ⟨_, _, _, ⟨c0, c1, c2⟩, ⟨x0, x1⟩, m0, m1, m2⟩ := HZ.out _ (Below.refl _ _)
      have C1 := Lib.hid (fun W' (hb : Below Wz.heap.size Wz W') => ((check_any d W' (HZ.out W' hb).2.1 (HM.out.next (HZ.out W' hb).1)).mono fun _ _ h => ⟨h.1, hb.trans (h.2.mono hb.size)⟩ : Calls Try.prog 9 #[.agg #[.slice d.sA d.sn d.sc, .slice d.zA d.zn d.zc, .slice d.lA d.ln d.lc]] W' fun e w' => e = .returned (.int .i64 (dataE d)) ∧ Below Wz.heap.size Wz w'))
      have C2 := Lib.hid (fun W' (hb : Below Wz.heap.size Wz W') => ((check_any (moreD d (some ⟨g, 0, none⟩) cap x) W' (HZ.out W' hb).2.2.1 (HM.out.next (HZ.out W' hb).1)).mono fun _ _ h => ⟨h.1, hb.trans (h.2.mono hb.size)⟩ : Calls Try.prog 9 #[.agg #[.slice d.sA d.sn d.sc, .slice d.zA d.zn d.zc, .slice (some ⟨g, 0, none⟩) (d.ln + 1) cap]] W' fun e w' => e = .returned (.int .i64 (dataE (moreD d (some ⟨g, 0, none⟩) cap x))) ∧ Below Wz.heap.size Wz w'))
      have B1 := Lib.hid (fun W' (hb : Below Wz.heap.size Wz W') => ((dataBegun_any W' (HM.out.next (HZ.out W' hb).1)).mono fun _ _ h => ⟨h.1, hb.trans (h.2.mono hb.size)⟩ : Calls Try.prog 8 #[] W' fun e w' => e = .returned (.bool true) ∧ Below Wz.heap.size Wz w'))
      have Z1 := Lib.hid (fun W' (hb : Below Wz.heap.size Wz W') => ((zone_any d nm W' (HZ.out W' hb).2.1 (HM.out.next (HZ.out W' hb).1)).mono fun _ _ h => ⟨h.1, hb.trans (h.2.mono hb.size)⟩ : Calls Try.prog 6 #[.agg #[.slice d.sA d.sn d.sc, .slice d.zA d.zn d.zc, .slice d.lA d.ln d.lc], .string nm] W' fun e w' => e = .returned (.tuple #[.int .i64 (zoneK d nm), .int .i64 (zoneEr d nm)]) ∧ Below Wz.heap.size Wz w'))
      have Z2 := Lib.hid (fun W' (hb : Below Wz.heap.size Wz W') => ((zone_any (moreD d (some ⟨g, 0, none⟩) cap x) nm W' (HZ.out W' hb).2.2.1 (HM.out.next (HZ.out W' hb).1)).mono fun _ _ h => ⟨h.1, hb.trans (h.2.mono hb.size)⟩ : Calls Try.prog 6 #[.agg #[.slice d.sA d.sn d.sc, .slice d.zA d.zn d.zc, .slice (some ⟨g, 0, none⟩) (d.ln + 1) cap], .string nm] W' fun e w' => e = .returned (.tuple #[.int .i64 (zoneK (moreD d (some ⟨g, 0, none⟩) cap x) nm), .int .i64 (zoneEr (moreD d (some ⟨g, 0, none⟩) cap x) nm)]) ∧ Below Wz.heap.size Wz w'))
      have Z3 := Lib.hid (fun W' (hb : Below Wz.heap.size Wz W') => ((zone_any (moreD d (some ⟨g, 0, none⟩) cap x) x.name W' (HZ.out W' hb).2.2.1 (HM.out.next (HZ.out W' hb).1)).mono fun _ _ h => ⟨h.1, hb.trans (h.2.mono hb.size)⟩ : Calls Try.prog 6 #[.agg #[.slice d.sA d.sn d.sc, .slice d.zA d.zn d.zc, .slice (some ⟨g, 0, none⟩) (d.ln + 1) cap], .string x.name] W' fun e w' => e = .returned (.tuple #[.int .i64 (zoneK (moreD d (some ⟨g, 0, none⟩) cap x) x.name), .int .i64 (zoneEr (moreD d (some ⟨g, 0, none⟩) cap x) x.name)]) ∧ Below Wz.heap.size Wz w'))
      have Z4 := Lib.hid (fun W' (hb : Below Wz.heap.size Wz W') => ((zone_any d x.to W' (HZ.out W' hb).2.1 (HM.out.next (HZ.out W' hb).1)).mono fun _ _ h => ⟨h.1, hb.trans (h.2.mono hb.size)⟩ : Calls Try.prog 6 #[.agg #[.slice d.sA d.sn d.sc, .slice d.zA d.zn d.zc, .slice d.lA d.ln d.lc], .string x.to] W' fun e w' => e = .returned (.tuple #[.int .i64 (zoneK d x.to), .int .i64 (zoneEr d x.to)]) ∧ Below Wz.heap.size Wz w'))
      by_cases p0 : dataE d = 0
      · by_cases p1 : dataE (moreD d (some ⟨g, 0, none⟩) cap x) = 0
        · have r0 := right_of p0
          have r1 := right_of p1
          obtain ⟨q1, q2⟩ := more_new r0 r1
          have z3 := zone_is (nm := x.name) p1 (by omega)
          have z4 := zone_is (nm := x.to) p0 (by omega)
          rw [q1] at z3
          rw [z3.1, z3.2] at Z3
          rw [z4.1, z4.2] at Z4
          rw [p0] at C1
          rw [p1] at C2
          obtain ⟨L, hL⟩ : ∃ L, L = leadN d x.to := ⟨_, rfl⟩
          rw [← hL] at Z3 Z4
          cases hs : same x.name nm
          · have gs : (nm.toList == x.name.toList) = false := by rw [same_comm] at hs; exact hs
            have e0 := more_same (A := some ⟨g, 0, none⟩) (c := cap) r0 hs
            have e1 : zoneK (moreD d (some ⟨g, 0, none⟩) cap x) nm = zoneK d nm ∧ zoneEr (moreD d (some ⟨g, 0, none⟩) cap x) nm = zoneEr d nm := by
              unfold zoneK zoneEr
              rw [p0, p1, e0]
              exact ⟨rfl, rfl⟩
            rw [e1.1, e1.2] at Z2
            obtain ⟨KK, hK⟩ : ∃ v, v = zoneK d nm := ⟨_, rfl⟩
            obtain ⟨EE, hE⟩ : ∃ v, v = zoneEr d nm := ⟨_, rfl⟩
            rw [← hK, ← hE] at Z1 Z2
            clear p0 p1 r0 r1 q1 q2 z3 z4 hL hs e0 e1 hK hE
            go_wp2_with fail
            refine (C1.out _ (Below.refl _ _)).mono ?_
            rintro e w3 ⟨rfl, h3⟩
            clear c0 c1 c2 x0 x1 m0 m1 m2
            obtain ⟨_, _, _, ⟨c0, c1, c2⟩, ⟨x0, x1⟩, m0, m1, m2⟩ := HZ.out _ h3
            go_wp2_with fail
            refine (C2.out _ h3).mono ?_
            rintro e w4 ⟨rfl, h4⟩
            clear c0 c1 c2 x0 x1 m0 m1 m2
            obtain ⟨_, _, _, ⟨c0, c1, c2⟩, ⟨x0, x1⟩, m0, m1, m2⟩ := HZ.out _ h4
            go_wp2_with fail
            refine (Z1.out _ h4).mono ?_
            rintro e w5 ⟨rfl, h5⟩
            clear c0 c1 c2 x0 x1 m0 m1 m2
            obtain ⟨_, _, _, ⟨c0, c1, c2⟩, ⟨x0, x1⟩, m0, m1, m2⟩ := HZ.out _ h5
            go_wp2_with fail
            refine (Z2.out _ h5).mono ?_
            rintro e w6 ⟨rfl, h6⟩
            clear c0 c1 c2 x0 x1 m0 m1 m2
            obtain ⟨_, _, _, ⟨c0, c1, c2⟩, ⟨x0, x1⟩, m0, m1, m2⟩ := HZ.out _ h6
            go_wp2_with fail
            refine (Z3.out _ h6).mono ?_
            rintro e w7 ⟨rfl, h7⟩
            clear c0 c1 c2 x0 x1 m0 m1 m2
            obtain ⟨_, _, _, ⟨c0, c1, c2⟩, ⟨x0, x1⟩, m0, m1, m2⟩ := HZ.out _ h7
            go_wp2_with fail
            refine (Z4.out _ h7).mono ?_
            rintro e w8 ⟨rfl, h8⟩
            clear c0 c1 c2 x0 x1 m0 m1 m2
            obtain ⟨_, _, _, ⟨c0, c1, c2⟩, ⟨x0, x1⟩, m0, m1, m2⟩ := HZ.out _ h8
            go_wp2_with fail
            refine (B1.out _ h8).mono ?_
            rintro e w9 ⟨rfl, h9⟩
            clear c0 c1 c2 x0 x1 m0 m1 m2
            obtain ⟨_, _, _, ⟨c0, c1, c2⟩, ⟨x0, x1⟩, m0, m1, m2⟩ := HZ.out _ h9
            go_wp2
            go_ret
            exact ⟨rfl, (HZ.out _ h9).1⟩
          · have gs : (nm.toList == x.name.toList) = true := by rw [same_comm] at hs; exact hs
            obtain ⟨KK, hK⟩ : ∃ v, v = zoneK d nm := ⟨_, rfl⟩
            obtain ⟨EE, hE⟩ : ∃ v, v = zoneEr d nm := ⟨_, rfl⟩
            obtain ⟨KL, hK2⟩ : ∃ v, v = zoneK (moreD d (some ⟨g, 0, none⟩) cap x) nm := ⟨_, rfl⟩
            obtain ⟨EL, hE2⟩ : ∃ v, v = zoneEr (moreD d (some ⟨g, 0, none⟩) cap x) nm := ⟨_, rfl⟩
            rw [← hK, ← hE] at Z1
            rw [← hK2, ← hE2] at Z2
            clear p0 p1 r0 r1 q1 q2 z3 z4 hL hs hK hE hK2 hE2
            go_wp2_with fail
            refine (C1.out _ (Below.refl _ _)).mono ?_
            rintro e w3 ⟨rfl, h3⟩
            clear c0 c1 c2 x0 x1 m0 m1 m2
            obtain ⟨_, _, _, ⟨c0, c1, c2⟩, ⟨x0, x1⟩, m0, m1, m2⟩ := HZ.out _ h3
            go_wp2_with fail
            refine (C2.out _ h3).mono ?_
            rintro e w4 ⟨rfl, h4⟩
            clear c0 c1 c2 x0 x1 m0 m1 m2
            obtain ⟨_, _, _, ⟨c0, c1, c2⟩, ⟨x0, x1⟩, m0, m1, m2⟩ := HZ.out _ h4
            go_wp2_with fail
            refine (Z1.out _ h4).mono ?_
            rintro e w5 ⟨rfl, h5⟩
            clear c0 c1 c2 x0 x1 m0 m1 m2
            obtain ⟨_, _, _, ⟨c0, c1, c2⟩, ⟨x0, x1⟩, m0, m1, m2⟩ := HZ.out _ h5
            go_wp2_with fail
            refine (Z2.out _ h5).mono ?_
            rintro e w6 ⟨rfl, h6⟩
            clear c0 c1 c2 x0 x1 m0 m1 m2
            obtain ⟨_, _, _, ⟨c0, c1, c2⟩, ⟨x0, x1⟩, m0, m1, m2⟩ := HZ.out _ h6
            go_wp2_with fail
            refine (Z3.out _ h6).mono ?_
            rintro e w7 ⟨rfl, h7⟩
            clear c0 c1 c2 x0 x1 m0 m1 m2
            obtain ⟨_, _, _, ⟨c0, c1, c2⟩, ⟨x0, x1⟩, m0, m1, m2⟩ := HZ.out _ h7
            go_wp2_with fail
            refine (Z4.out _ h7).mono ?_
            rintro e w8 ⟨rfl, h8⟩
            clear c0 c1 c2 x0 x1 m0 m1 m2
            obtain ⟨_, _, _, ⟨c0, c1, c2⟩, ⟨x0, x1⟩, m0, m1, m2⟩ := HZ.out _ h8
            go_wp2_with fail
            refine (B1.out _ h8).mono ?_
            rintro e w9 ⟨rfl, h9⟩
            clear c0 c1 c2 x0 x1 m0 m1 m2
            obtain ⟨_, _, _, ⟨c0, c1, c2⟩, ⟨x0, x1⟩, m0, m1, m2⟩ := HZ.out _ h9
            go_wp2
            go_ret
            exact ⟨rfl, (HZ.out _ h9).1⟩
        · have pb : (dataE (moreD d (some ⟨g, 0, none⟩) cap x) != 0) = true := by simpa using p1
          rw [p0] at C1
          obtain ⟨DD, hDD⟩ : ∃ v, v = dataE (moreD d (some ⟨g, 0, none⟩) cap x) := ⟨_, rfl⟩
          rw [← hDD] at C2 pb
          clear p0 p1 hDD Z1 Z2 Z3 Z4
          go_wp2_with fail
          refine (C1.out _ (Below.refl _ _)).mono ?_
          rintro e w3 ⟨rfl, h3⟩
          clear c0 c1 c2 x0 x1 m0 m1 m2
          obtain ⟨_, _, _, ⟨c0, c1, c2⟩, ⟨x0, x1⟩, m0, m1, m2⟩ := HZ.out _ h3
          go_wp2_with fail
          refine (C2.out _ h3).mono ?_
          rintro e w4 ⟨rfl, h4⟩
          clear c0 c1 c2 x0 x1 m0 m1 m2
          obtain ⟨_, _, _, ⟨c0, c1, c2⟩, ⟨x0, x1⟩, m0, m1, m2⟩ := HZ.out _ h4
          go_wp2_with fail
          refine (B1.out _ h4).mono ?_
          rintro e w5 ⟨rfl, h5⟩
          clear c0 c1 c2 x0 x1 m0 m1 m2
          obtain ⟨_, _, _, ⟨c0, c1, c2⟩, ⟨x0, x1⟩, m0, m1, m2⟩ := HZ.out _ h5
          go_wp2
          go_ret
          exact ⟨rfl, (HZ.out _ h5).1⟩
      · have pb : (dataE d != 0) = true := by simpa using p0
        obtain ⟨DD, hDD⟩ : ∃ v, v = dataE d := ⟨_, rfl⟩
        rw [← hDD] at C1 pb
        clear p0 hDD Z1 Z2 Z3 Z4 C2
        go_wp2_with fail
        refine (C1.out _ (Below.refl _ _)).mono ?_
        rintro e w3 ⟨rfl, h3⟩
        clear c0 c1 c2 x0 x1 m0 m1 m2
        obtain ⟨_, _, _, ⟨c0, c1, c2⟩, ⟨x0, x1⟩, m0, m1, m2⟩ := HZ.out _ h3
        go_wp2_with fail
        refine (B1.out _ h3).mono ?_
        rintro e w4 ⟨rfl, h4⟩
        clear c0 c1 c2 x0 x1 m0 m1 m2
        obtain ⟨_, _, _, ⟨c0, c1, c2⟩, ⟨x0, x1⟩, m0, m1, m2⟩ := HZ.out _ h4
        go_wp2
        go_ret
        exact ⟨rfl, (HZ.out _ h4).1⟩
    · simp only [List.getElem_toArray, List.getElem_cons_zero, List.getElem_cons_succ]
      go_simp
      refine hK.out _ _ ?_ (fun hHeld => ?_)
      · exact HS.out _ hbAX.out
      clear hK K
      try simp only [List.getElem_toArray, List.getElem_cons_zero, List.getElem_cons_succ, Act.put, List.setIfInBounds_toArray, List.set_cons_zero, List.set_cons_succ]
      refine wpAnyH_ready (rs := [3]) (by kernel_rfl) (by simp) ?_
      refine (AllReadyH.cons (o := _) rfl (fun K hK => ?_) AllReadyH.nil)
      simp only [List.getElem_toArray, List.getElem_cons_zero, List.getElem_cons_succ]
      rw [if_pos (by rfl)]
      refine wp_app _ _ _ 24 rfl W.heap.size 38 (.agg #[.string ⟨#[]⟩, .string ⟨#[]⟩]) 2 32 Try.underlying24 infoLink rfl (by decide) _ 0 [] rfl (oAX.out) d.lA d.ln d.lc (lks d.ls) rfl HA.out (by rw [lks_len, HLN.out]) (fun ad hA => lks_cells (HLK.out _ hbAX.out) hA) lks_one (by unfold maxLen; omega) (by omega) (hbAX.out).size ?_
      intro v1 w1 hown1 hg1 hn1
      have hg1 : World.grownBy _ w1 (some (W.heap.size)) := hg1
      have hb1 : Below W.heap.size W w1 := (hbAX.out).grown hg1 (hbAX.out).size (fun k hk => (World.ownsRow.lt (oAX.out) k hk).1)
      refine hK.out _ _ ?_ (fun hHeld => ?_)
      · exact HS.out _ hb1
      clear hK K
      try simp only [List.getElem_toArray, List.getElem_cons_zero, List.getElem_cons_succ, Act.put, List.setIfInBounds_toArray, List.set_cons_zero, List.set_cons_succ]
      refine wpAnyH_ready (rs := [6]) (by kernel_rfl) (by simp) ?_
      refine (AllReadyH.cons (o := _) rfl (fun K hK => ?_) AllReadyH.nil)
      simp only [List.getElem_toArray, List.getElem_cons_zero, List.getElem_cons_succ]
      rw [if_pos (by rfl)]
      refine wp_app _ _ _ 24 rfl W.heap.size 38 (.agg #[.string ⟨#[]⟩, .string ⟨#[]⟩]) 2 32 Try.underlying24 infoLink rfl (by decide) _ (0 + d.ln) _ rfl (hown1) _ 1 1 (lks [x]) rfl (fun h => by cases h) rfl (fun ad hA => by obtain rfl := Option.some.inj hA; exact World.news_of_block ((hg1.block (W.heap.size + 1) (by simp) (by simp)).trans ((push_at (W.alloc (.cells #[] 38)) (.cells #[.string x.name, .string x.to] 38) (W.heap.size + 1) (by simp) : ((W.alloc (.cells #[] 38)).alloc (.cells #[.string x.name, .string x.to] 38)).heap[W.heap.size + 1]? = some (.cells #[.string x.name, .string x.to] 38))))) lks_one (by unfold maxLen; omega) (by omega) (hb1).size ?_
      intro v2 w2 hown2 hg2 hn2
      have hb2 : Below W.heap.size W w2 := (hb1).grown hg2 (hb1).size (fun k hk => (World.ownsRow.lt (hown1) k hk).1)
      obtain ⟨g, cap, rfl, hbg, hlt⟩ := hown2.form (by omega)
      refine hK.out _ _ ?_ (fun hHeld => ?_)
      · exact HS.out _ hb2
      clear hK K
      try simp only [List.getElem_toArray, List.getElem_cons_zero, List.getElem_cons_succ, Act.put, List.setIfInBounds_toArray, List.set_cons_zero, List.set_cons_succ]
      refine wpAnyH_take (i := 7) (oi := _) (v := ?_) rfl (by kernel_rfl) (by kernel_rfl) (by kernel_rfl) (fun _ _ _ h => h) (Or.inl ⟨by rfl, ?_⟩) (by assumption) ?_
      rotate_left
      · intro w hSw; (try dsimp only at hSw); (go_simp <;> with_reducible rfl)
      simp only [List.getElem_toArray, List.getElem_cons_zero, List.getElem_cons_succ, Act.put, List.setIfInBounds_toArray, List.set_cons_zero, List.set_cons_succ]
      refine wpAnyH_ready (rs := [8]) (by kernel_rfl) (by simp) ?_
      refine (AllReadyH.cons (o := _) rfl (fun K hK => ?_) AllReadyH.nil)
      obtain ⟨f0, f1⟩ := HF.out _ hb2
      simp only [List.getElem_toArray, List.getElem_cons_zero, List.getElem_cons_succ]
      go_simp
      refine hK.out _ _ ?_ (fun hHeld => ?_)
      · exact HS3.out _ _ hb2
      clear hK K
      try simp only [List.getElem_toArray, List.getElem_cons_zero, List.getElem_cons_succ, Act.put, List.setIfInBounds_toArray, List.set_cons_zero, List.set_cons_succ]
      refine wpAnyH_done (by kernel_rfl) ?_ _
      have hown3 : w2.ownsRow W.heap.size 38 2 (.slice (some ⟨g, 0, none⟩) (d.ln + 1) cap) (d.ln + 1) (lks (d.ls ++ [x])) := by
        have := hown2
        rw [Nat.zero_add, List.nil_append] at this
        rwa [show lks (d.ls ++ [x]) = lks d.ls ++ lks [x] by simp [lks]]
      have HZ := Lib.hid (fun W' hb => more_next (W' := W') HD.out hx1 hx2 KB.out KZ.out K0.out K1.out K2.out hb2 hown3 hln hb)
      try rw [Nat.zero_add]
      obtain ⟨Wz, hWz⟩ : ∃ Wz : World, Wz = (w2.setCell ⟨w.heap.size + 1 + 1, 2, none⟩ (.slice (some ⟨g, 0, none⟩) (d.ln + 1) cap)) := ⟨_, rfl⟩
      rw [← hWz] at HZ
      rw [← hWz]
      clear hWz hown3 hown2
      obtain ⟨_, _, _, ⟨c0, c1, c2⟩, ⟨x0, x1⟩, m0, m1, m2⟩ := HZ.out _ (Below.refl _ _)
      have C1 := Lib.hid (fun W' (hb : Below Wz.heap.size Wz W') => ((check_any d W' (HZ.out W' hb).2.1 (HM.out.next (HZ.out W' hb).1)).mono fun _ _ h => ⟨h.1, hb.trans (h.2.mono hb.size)⟩ : Calls Try.prog 9 #[.agg #[.slice d.sA d.sn d.sc, .slice d.zA d.zn d.zc, .slice d.lA d.ln d.lc]] W' fun e w' => e = .returned (.int .i64 (dataE d)) ∧ Below Wz.heap.size Wz w'))
      have C2 := Lib.hid (fun W' (hb : Below Wz.heap.size Wz W') => ((check_any (moreD d (some ⟨g, 0, none⟩) cap x) W' (HZ.out W' hb).2.2.1 (HM.out.next (HZ.out W' hb).1)).mono fun _ _ h => ⟨h.1, hb.trans (h.2.mono hb.size)⟩ : Calls Try.prog 9 #[.agg #[.slice d.sA d.sn d.sc, .slice d.zA d.zn d.zc, .slice (some ⟨g, 0, none⟩) (d.ln + 1) cap]] W' fun e w' => e = .returned (.int .i64 (dataE (moreD d (some ⟨g, 0, none⟩) cap x))) ∧ Below Wz.heap.size Wz w'))
      have B1 := Lib.hid (fun W' (hb : Below Wz.heap.size Wz W') => ((dataBegun_any W' (HM.out.next (HZ.out W' hb).1)).mono fun _ _ h => ⟨h.1, hb.trans (h.2.mono hb.size)⟩ : Calls Try.prog 8 #[] W' fun e w' => e = .returned (.bool true) ∧ Below Wz.heap.size Wz w'))
      have Z1 := Lib.hid (fun W' (hb : Below Wz.heap.size Wz W') => ((zone_any d nm W' (HZ.out W' hb).2.1 (HM.out.next (HZ.out W' hb).1)).mono fun _ _ h => ⟨h.1, hb.trans (h.2.mono hb.size)⟩ : Calls Try.prog 6 #[.agg #[.slice d.sA d.sn d.sc, .slice d.zA d.zn d.zc, .slice d.lA d.ln d.lc], .string nm] W' fun e w' => e = .returned (.tuple #[.int .i64 (zoneK d nm), .int .i64 (zoneEr d nm)]) ∧ Below Wz.heap.size Wz w'))
      have Z2 := Lib.hid (fun W' (hb : Below Wz.heap.size Wz W') => ((zone_any (moreD d (some ⟨g, 0, none⟩) cap x) nm W' (HZ.out W' hb).2.2.1 (HM.out.next (HZ.out W' hb).1)).mono fun _ _ h => ⟨h.1, hb.trans (h.2.mono hb.size)⟩ : Calls Try.prog 6 #[.agg #[.slice d.sA d.sn d.sc, .slice d.zA d.zn d.zc, .slice (some ⟨g, 0, none⟩) (d.ln + 1) cap], .string nm] W' fun e w' => e = .returned (.tuple #[.int .i64 (zoneK (moreD d (some ⟨g, 0, none⟩) cap x) nm), .int .i64 (zoneEr (moreD d (some ⟨g, 0, none⟩) cap x) nm)]) ∧ Below Wz.heap.size Wz w'))
      have Z3 := Lib.hid (fun W' (hb : Below Wz.heap.size Wz W') => ((zone_any (moreD d (some ⟨g, 0, none⟩) cap x) x.name W' (HZ.out W' hb).2.2.1 (HM.out.next (HZ.out W' hb).1)).mono fun _ _ h => ⟨h.1, hb.trans (h.2.mono hb.size)⟩ : Calls Try.prog 6 #[.agg #[.slice d.sA d.sn d.sc, .slice d.zA d.zn d.zc, .slice (some ⟨g, 0, none⟩) (d.ln + 1) cap], .string x.name] W' fun e w' => e = .returned (.tuple #[.int .i64 (zoneK (moreD d (some ⟨g, 0, none⟩) cap x) x.name), .int .i64 (zoneEr (moreD d (some ⟨g, 0, none⟩) cap x) x.name)]) ∧ Below Wz.heap.size Wz w'))
      have Z4 := Lib.hid (fun W' (hb : Below Wz.heap.size Wz W') => ((zone_any d x.to W' (HZ.out W' hb).2.1 (HM.out.next (HZ.out W' hb).1)).mono fun _ _ h => ⟨h.1, hb.trans (h.2.mono hb.size)⟩ : Calls Try.prog 6 #[.agg #[.slice d.sA d.sn d.sc, .slice d.zA d.zn d.zc, .slice d.lA d.ln d.lc], .string x.to] W' fun e w' => e = .returned (.tuple #[.int .i64 (zoneK d x.to), .int .i64 (zoneEr d x.to)]) ∧ Below Wz.heap.size Wz w'))
      by_cases p0 : dataE d = 0
      · by_cases p1 : dataE (moreD d (some ⟨g, 0, none⟩) cap x) = 0
        · have r0 := right_of p0
          have r1 := right_of p1
          obtain ⟨q1, q2⟩ := more_new r0 r1
          have z3 := zone_is (nm := x.name) p1 (by omega)
          have z4 := zone_is (nm := x.to) p0 (by omega)
          rw [q1] at z3
          rw [z3.1, z3.2] at Z3
          rw [z4.1, z4.2] at Z4
          rw [p0] at C1
          rw [p1] at C2
          obtain ⟨L, hL⟩ : ∃ L, L = leadN d x.to := ⟨_, rfl⟩
          rw [← hL] at Z3 Z4
          cases hs : same x.name nm
          · have gs : (nm.toList == x.name.toList) = false := by rw [same_comm] at hs; exact hs
            have e0 := more_same (A := some ⟨g, 0, none⟩) (c := cap) r0 hs
            have e1 : zoneK (moreD d (some ⟨g, 0, none⟩) cap x) nm = zoneK d nm ∧ zoneEr (moreD d (some ⟨g, 0, none⟩) cap x) nm = zoneEr d nm := by
              unfold zoneK zoneEr
              rw [p0, p1, e0]
              exact ⟨rfl, rfl⟩
            rw [e1.1, e1.2] at Z2
            obtain ⟨KK, hK⟩ : ∃ v, v = zoneK d nm := ⟨_, rfl⟩
            obtain ⟨EE, hE⟩ : ∃ v, v = zoneEr d nm := ⟨_, rfl⟩
            rw [← hK, ← hE] at Z1 Z2
            clear p0 p1 r0 r1 q1 q2 z3 z4 hL hs e0 e1 hK hE
            go_wp2_with fail
            refine (C1.out _ (Below.refl _ _)).mono ?_
            rintro e w3 ⟨rfl, h3⟩
            clear c0 c1 c2 x0 x1 m0 m1 m2
            obtain ⟨_, _, _, ⟨c0, c1, c2⟩, ⟨x0, x1⟩, m0, m1, m2⟩ := HZ.out _ h3
            go_wp2_with fail
            refine (C2.out _ h3).mono ?_
            rintro e w4 ⟨rfl, h4⟩
            clear c0 c1 c2 x0 x1 m0 m1 m2
            obtain ⟨_, _, _, ⟨c0, c1, c2⟩, ⟨x0, x1⟩, m0, m1, m2⟩ := HZ.out _ h4
            go_wp2_with fail
            refine (Z1.out _ h4).mono ?_
            rintro e w5 ⟨rfl, h5⟩
            clear c0 c1 c2 x0 x1 m0 m1 m2
            obtain ⟨_, _, _, ⟨c0, c1, c2⟩, ⟨x0, x1⟩, m0, m1, m2⟩ := HZ.out _ h5
            go_wp2_with fail
            refine (Z2.out _ h5).mono ?_
            rintro e w6 ⟨rfl, h6⟩
            clear c0 c1 c2 x0 x1 m0 m1 m2
            obtain ⟨_, _, _, ⟨c0, c1, c2⟩, ⟨x0, x1⟩, m0, m1, m2⟩ := HZ.out _ h6
            go_wp2_with fail
            refine (Z3.out _ h6).mono ?_
            rintro e w7 ⟨rfl, h7⟩
            clear c0 c1 c2 x0 x1 m0 m1 m2
            obtain ⟨_, _, _, ⟨c0, c1, c2⟩, ⟨x0, x1⟩, m0, m1, m2⟩ := HZ.out _ h7
            go_wp2_with fail
            refine (Z4.out _ h7).mono ?_
            rintro e w8 ⟨rfl, h8⟩
            clear c0 c1 c2 x0 x1 m0 m1 m2
            obtain ⟨_, _, _, ⟨c0, c1, c2⟩, ⟨x0, x1⟩, m0, m1, m2⟩ := HZ.out _ h8
            go_wp2_with fail
            refine (B1.out _ h8).mono ?_
            rintro e w9 ⟨rfl, h9⟩
            clear c0 c1 c2 x0 x1 m0 m1 m2
            obtain ⟨_, _, _, ⟨c0, c1, c2⟩, ⟨x0, x1⟩, m0, m1, m2⟩ := HZ.out _ h9
            go_wp2
            go_ret
            exact ⟨rfl, (HZ.out _ h9).1⟩
          · have gs : (nm.toList == x.name.toList) = true := by rw [same_comm] at hs; exact hs
            obtain ⟨KK, hK⟩ : ∃ v, v = zoneK d nm := ⟨_, rfl⟩
            obtain ⟨EE, hE⟩ : ∃ v, v = zoneEr d nm := ⟨_, rfl⟩
            obtain ⟨KL, hK2⟩ : ∃ v, v = zoneK (moreD d (some ⟨g, 0, none⟩) cap x) nm := ⟨_, rfl⟩
            obtain ⟨EL, hE2⟩ : ∃ v, v = zoneEr (moreD d (some ⟨g, 0, none⟩) cap x) nm := ⟨_, rfl⟩
            rw [← hK, ← hE] at Z1
            rw [← hK2, ← hE2] at Z2
            clear p0 p1 r0 r1 q1 q2 z3 z4 hL hs hK hE hK2 hE2
            go_wp2_with fail
            refine (C1.out _ (Below.refl _ _)).mono ?_
            rintro e w3 ⟨rfl, h3⟩
            clear c0 c1 c2 x0 x1 m0 m1 m2
            obtain ⟨_, _, _, ⟨c0, c1, c2⟩, ⟨x0, x1⟩, m0, m1, m2⟩ := HZ.out _ h3
            go_wp2_with fail
            refine (C2.out _ h3).mono ?_
            rintro e w4 ⟨rfl, h4⟩
            clear c0 c1 c2 x0 x1 m0 m1 m2
            obtain ⟨_, _, _, ⟨c0, c1, c2⟩, ⟨x0, x1⟩, m0, m1, m2⟩ := HZ.out _ h4
            go_wp2_with fail
            refine (Z1.out _ h4).mono ?_
            rintro e w5 ⟨rfl, h5⟩
            clear c0 c1 c2 x0 x1 m0 m1 m2
            obtain ⟨_, _, _, ⟨c0, c1, c2⟩, ⟨x0, x1⟩, m0, m1, m2⟩ := HZ.out _ h5
            go_wp2_with fail
            refine (Z2.out _ h5).mono ?_
            rintro e w6 ⟨rfl, h6⟩
            clear c0 c1 c2 x0 x1 m0 m1 m2
            obtain ⟨_, _, _, ⟨c0, c1, c2⟩, ⟨x0, x1⟩, m0, m1, m2⟩ := HZ.out _ h6
            go_wp2_with fail
            refine (Z3.out _ h6).mono ?_
            rintro e w7 ⟨rfl, h7⟩
            clear c0 c1 c2 x0 x1 m0 m1 m2
            obtain ⟨_, _, _, ⟨c0, c1, c2⟩, ⟨x0, x1⟩, m0, m1, m2⟩ := HZ.out _ h7
            go_wp2_with fail
            refine (Z4.out _ h7).mono ?_
            rintro e w8 ⟨rfl, h8⟩
            clear c0 c1 c2 x0 x1 m0 m1 m2
            obtain ⟨_, _, _, ⟨c0, c1, c2⟩, ⟨x0, x1⟩, m0, m1, m2⟩ := HZ.out _ h8
            go_wp2_with fail
            refine (B1.out _ h8).mono ?_
            rintro e w9 ⟨rfl, h9⟩
            clear c0 c1 c2 x0 x1 m0 m1 m2
            obtain ⟨_, _, _, ⟨c0, c1, c2⟩, ⟨x0, x1⟩, m0, m1, m2⟩ := HZ.out _ h9
            go_wp2
            go_ret
            exact ⟨rfl, (HZ.out _ h9).1⟩
        · have pb : (dataE (moreD d (some ⟨g, 0, none⟩) cap x) != 0) = true := by simpa using p1
          rw [p0] at C1
          obtain ⟨DD, hDD⟩ : ∃ v, v = dataE (moreD d (some ⟨g, 0, none⟩) cap x) := ⟨_, rfl⟩
          rw [← hDD] at C2 pb
          clear p0 p1 hDD Z1 Z2 Z3 Z4
          go_wp2_with fail
          refine (C1.out _ (Below.refl _ _)).mono ?_
          rintro e w3 ⟨rfl, h3⟩
          clear c0 c1 c2 x0 x1 m0 m1 m2
          obtain ⟨_, _, _, ⟨c0, c1, c2⟩, ⟨x0, x1⟩, m0, m1, m2⟩ := HZ.out _ h3
          go_wp2_with fail
          refine (C2.out _ h3).mono ?_
          rintro e w4 ⟨rfl, h4⟩
          clear c0 c1 c2 x0 x1 m0 m1 m2
          obtain ⟨_, _, _, ⟨c0, c1, c2⟩, ⟨x0, x1⟩, m0, m1, m2⟩ := HZ.out _ h4
          go_wp2_with fail
          refine (B1.out _ h4).mono ?_
          rintro e w5 ⟨rfl, h5⟩
          clear c0 c1 c2 x0 x1 m0 m1 m2
          obtain ⟨_, _, _, ⟨c0, c1, c2⟩, ⟨x0, x1⟩, m0, m1, m2⟩ := HZ.out _ h5
          go_wp2
          go_ret
          exact ⟨rfl, (HZ.out _ h5).1⟩
      · have pb : (dataE d != 0) = true := by simpa using p0
        obtain ⟨DD, hDD⟩ : ∃ v, v = dataE d := ⟨_, rfl⟩
        rw [← hDD] at C1 pb
        clear p0 hDD Z1 Z2 Z3 Z4 C2
        go_wp2_with fail
        refine (C1.out _ (Below.refl _ _)).mono ?_
        rintro e w3 ⟨rfl, h3⟩
        clear c0 c1 c2 x0 x1 m0 m1 m2
        obtain ⟨_, _, _, ⟨c0, c1, c2⟩, ⟨x0, x1⟩, m0, m1, m2⟩ := HZ.out _ h3
        go_wp2_with fail
        refine (B1.out _ h3).mono ?_
        rintro e w4 ⟨rfl, h4⟩
        clear c0 c1 c2 x0 x1 m0 m1 m2
        obtain ⟨_, _, _, ⟨c0, c1, c2⟩, ⟨x0, x1⟩, m0, m1, m2⟩ := HZ.out _ h4
        go_wp2
        go_ret
        exact ⟨rfl, (HZ.out _ h4).1⟩
  · simp only [List.getElem_toArray, List.getElem_cons_zero, List.getElem_cons_succ]
    go_simp
    refine hK.out _ _ ?_ (fun hHeld => ?_)
    · exact HS.out _ hbX.out
    clear hK K
    try simp only [List.getElem_toArray, List.getElem_cons_zero, List.getElem_cons_succ, Act.put, List.setIfInBounds_toArray, List.set_cons_zero, List.set_cons_succ]
    refine wpAnyH_ready (rs := [0]) (by kernel_rfl) (by simp) ?_
    refine (AllReadyH.cons (o := _) rfl (fun K hK => ?_) AllReadyH.nil)
    simp only [List.getElem_toArray, List.getElem_cons_zero, List.getElem_cons_succ]
    go_simp
    refine hK.out _ _ ?_ (fun hHeld => ?_)
    · exact HS.out _ hbXA.out
    clear hK K
    try simp only [List.getElem_toArray, List.getElem_cons_zero, List.getElem_cons_succ, Act.put, List.setIfInBounds_toArray, List.set_cons_zero, List.set_cons_succ]
    refine wpAnyH_ready (rs := [3]) (by kernel_rfl) (by simp) ?_
    refine (AllReadyH.cons (o := _) rfl (fun K hK => ?_) AllReadyH.nil)
    simp only [List.getElem_toArray, List.getElem_cons_zero, List.getElem_cons_succ]
    rw [if_pos (by rfl)]
    refine wp_app _ _ _ 24 rfl W.heap.size 38 (.agg #[.string ⟨#[]⟩, .string ⟨#[]⟩]) 2 32 Try.underlying24 infoLink rfl (by decide) _ 0 [] rfl (oXA.out) d.lA d.ln d.lc (lks d.ls) rfl HA.out (by rw [lks_len, HLN.out]) (fun ad hA => lks_cells (HLK.out _ hbXA.out) hA) lks_one (by unfold maxLen; omega) (by omega) (hbXA.out).size ?_
    intro v1 w1 hown1 hg1 hn1
    have hg1 : World.grownBy _ w1 (some (W.heap.size + 1)) := hg1
    have hb1 : Below W.heap.size W w1 := (hbXA.out).grown hg1 (hbXA.out).size (fun k hk => (World.ownsRow.lt (oXA.out) k hk).1)
    refine hK.out _ _ ?_ (fun hHeld => ?_)
    · exact HS.out _ hb1
    clear hK K
    try simp only [List.getElem_toArray, List.getElem_cons_zero, List.getElem_cons_succ, Act.put, List.setIfInBounds_toArray, List.set_cons_zero, List.set_cons_succ]
    refine wpAnyH_ready (rs := [6]) (by kernel_rfl) (by simp) ?_
    refine (AllReadyH.cons (o := _) rfl (fun K hK => ?_) AllReadyH.nil)
    simp only [List.getElem_toArray, List.getElem_cons_zero, List.getElem_cons_succ]
    rw [if_pos (by rfl)]
    refine wp_app _ _ _ 24 rfl W.heap.size 38 (.agg #[.string ⟨#[]⟩, .string ⟨#[]⟩]) 2 32 Try.underlying24 infoLink rfl (by decide) _ (0 + d.ln) _ rfl (hown1) _ 1 1 (lks [x]) rfl (fun h => by cases h) rfl (fun ad hA => by obtain rfl := Option.some.inj hA; exact World.news_of_block ((hg1.block (W.heap.size) (by simp <;> omega) (by simp)).trans (((push_past (W.alloc (.cells #[.string x.name, .string x.to] 38)) (.cells #[] 38) W.heap.size (by simp)).trans (push_at W (.cells #[.string x.name, .string x.to] 38) W.heap.size rfl) : ((W.alloc (.cells #[.string x.name, .string x.to] 38)).alloc (.cells #[] 38)).heap[W.heap.size]? = some (.cells #[.string x.name, .string x.to] 38))))) lks_one (by unfold maxLen; omega) (by omega) (hb1).size ?_
    intro v2 w2 hown2 hg2 hn2
    have hb2 : Below W.heap.size W w2 := (hb1).grown hg2 (hb1).size (fun k hk => (World.ownsRow.lt (hown1) k hk).1)
    obtain ⟨g, cap, rfl, hbg, hlt⟩ := hown2.form (by omega)
    refine hK.out _ _ ?_ (fun hHeld => ?_)
    · exact HS.out _ hb2
    clear hK K
    try simp only [List.getElem_toArray, List.getElem_cons_zero, List.getElem_cons_succ, Act.put, List.setIfInBounds_toArray, List.set_cons_zero, List.set_cons_succ]
    refine wpAnyH_take (i := 7) (oi := _) (v := ?_) rfl (by kernel_rfl) (by kernel_rfl) (by kernel_rfl) (fun _ _ _ h => h) (Or.inl ⟨by rfl, ?_⟩) (by assumption) ?_
    rotate_left
    · intro w hSw; (try dsimp only at hSw); (go_simp <;> with_reducible rfl)
    simp only [List.getElem_toArray, List.getElem_cons_zero, List.getElem_cons_succ, Act.put, List.setIfInBounds_toArray, List.set_cons_zero, List.set_cons_succ]
    refine wpAnyH_ready (rs := [8]) (by kernel_rfl) (by simp) ?_
    refine (AllReadyH.cons (o := _) rfl (fun K hK => ?_) AllReadyH.nil)
    obtain ⟨f0, f1⟩ := HF.out _ hb2
    simp only [List.getElem_toArray, List.getElem_cons_zero, List.getElem_cons_succ]
    go_simp
    refine hK.out _ _ ?_ (fun hHeld => ?_)
    · exact HS3.out _ _ hb2
    clear hK K
    try simp only [List.getElem_toArray, List.getElem_cons_zero, List.getElem_cons_succ, Act.put, List.setIfInBounds_toArray, List.set_cons_zero, List.set_cons_succ]
    refine wpAnyH_done (by kernel_rfl) ?_ _
    have hown3 : w2.ownsRow W.heap.size 38 2 (.slice (some ⟨g, 0, none⟩) (d.ln + 1) cap) (d.ln + 1) (lks (d.ls ++ [x])) := by
      have := hown2
      rw [Nat.zero_add, List.nil_append] at this
      rwa [show lks (d.ls ++ [x]) = lks d.ls ++ lks [x] by simp [lks]]
    have HZ := Lib.hid (fun W' hb => more_next (W' := W') HD.out hx1 hx2 KB.out KZ.out K0.out K1.out K2.out hb2 hown3 hln hb)
    try rw [Nat.zero_add]
    obtain ⟨Wz, hWz⟩ : ∃ Wz : World, Wz = (w2.setCell ⟨w.heap.size + 1 + 1, 2, none⟩ (.slice (some ⟨g, 0, none⟩) (d.ln + 1) cap)) := ⟨_, rfl⟩
    rw [← hWz] at HZ
    rw [← hWz]
    clear hWz hown3 hown2
    obtain ⟨_, _, _, ⟨c0, c1, c2⟩, ⟨x0, x1⟩, m0, m1, m2⟩ := HZ.out _ (Below.refl _ _)
    have C1 := Lib.hid (fun W' (hb : Below Wz.heap.size Wz W') => ((check_any d W' (HZ.out W' hb).2.1 (HM.out.next (HZ.out W' hb).1)).mono fun _ _ h => ⟨h.1, hb.trans (h.2.mono hb.size)⟩ : Calls Try.prog 9 #[.agg #[.slice d.sA d.sn d.sc, .slice d.zA d.zn d.zc, .slice d.lA d.ln d.lc]] W' fun e w' => e = .returned (.int .i64 (dataE d)) ∧ Below Wz.heap.size Wz w'))
    have C2 := Lib.hid (fun W' (hb : Below Wz.heap.size Wz W') => ((check_any (moreD d (some ⟨g, 0, none⟩) cap x) W' (HZ.out W' hb).2.2.1 (HM.out.next (HZ.out W' hb).1)).mono fun _ _ h => ⟨h.1, hb.trans (h.2.mono hb.size)⟩ : Calls Try.prog 9 #[.agg #[.slice d.sA d.sn d.sc, .slice d.zA d.zn d.zc, .slice (some ⟨g, 0, none⟩) (d.ln + 1) cap]] W' fun e w' => e = .returned (.int .i64 (dataE (moreD d (some ⟨g, 0, none⟩) cap x))) ∧ Below Wz.heap.size Wz w'))
    have B1 := Lib.hid (fun W' (hb : Below Wz.heap.size Wz W') => ((dataBegun_any W' (HM.out.next (HZ.out W' hb).1)).mono fun _ _ h => ⟨h.1, hb.trans (h.2.mono hb.size)⟩ : Calls Try.prog 8 #[] W' fun e w' => e = .returned (.bool true) ∧ Below Wz.heap.size Wz w'))
    have Z1 := Lib.hid (fun W' (hb : Below Wz.heap.size Wz W') => ((zone_any d nm W' (HZ.out W' hb).2.1 (HM.out.next (HZ.out W' hb).1)).mono fun _ _ h => ⟨h.1, hb.trans (h.2.mono hb.size)⟩ : Calls Try.prog 6 #[.agg #[.slice d.sA d.sn d.sc, .slice d.zA d.zn d.zc, .slice d.lA d.ln d.lc], .string nm] W' fun e w' => e = .returned (.tuple #[.int .i64 (zoneK d nm), .int .i64 (zoneEr d nm)]) ∧ Below Wz.heap.size Wz w'))
    have Z2 := Lib.hid (fun W' (hb : Below Wz.heap.size Wz W') => ((zone_any (moreD d (some ⟨g, 0, none⟩) cap x) nm W' (HZ.out W' hb).2.2.1 (HM.out.next (HZ.out W' hb).1)).mono fun _ _ h => ⟨h.1, hb.trans (h.2.mono hb.size)⟩ : Calls Try.prog 6 #[.agg #[.slice d.sA d.sn d.sc, .slice d.zA d.zn d.zc, .slice (some ⟨g, 0, none⟩) (d.ln + 1) cap], .string nm] W' fun e w' => e = .returned (.tuple #[.int .i64 (zoneK (moreD d (some ⟨g, 0, none⟩) cap x) nm), .int .i64 (zoneEr (moreD d (some ⟨g, 0, none⟩) cap x) nm)]) ∧ Below Wz.heap.size Wz w'))
    have Z3 := Lib.hid (fun W' (hb : Below Wz.heap.size Wz W') => ((zone_any (moreD d (some ⟨g, 0, none⟩) cap x) x.name W' (HZ.out W' hb).2.2.1 (HM.out.next (HZ.out W' hb).1)).mono fun _ _ h => ⟨h.1, hb.trans (h.2.mono hb.size)⟩ : Calls Try.prog 6 #[.agg #[.slice d.sA d.sn d.sc, .slice d.zA d.zn d.zc, .slice (some ⟨g, 0, none⟩) (d.ln + 1) cap], .string x.name] W' fun e w' => e = .returned (.tuple #[.int .i64 (zoneK (moreD d (some ⟨g, 0, none⟩) cap x) x.name), .int .i64 (zoneEr (moreD d (some ⟨g, 0, none⟩) cap x) x.name)]) ∧ Below Wz.heap.size Wz w'))
    have Z4 := Lib.hid (fun W' (hb : Below Wz.heap.size Wz W') => ((zone_any d x.to W' (HZ.out W' hb).2.1 (HM.out.next (HZ.out W' hb).1)).mono fun _ _ h => ⟨h.1, hb.trans (h.2.mono hb.size)⟩ : Calls Try.prog 6 #[.agg #[.slice d.sA d.sn d.sc, .slice d.zA d.zn d.zc, .slice d.lA d.ln d.lc], .string x.to] W' fun e w' => e = .returned (.tuple #[.int .i64 (zoneK d x.to), .int .i64 (zoneEr d x.to)]) ∧ Below Wz.heap.size Wz w'))
    by_cases p0 : dataE d = 0
    · by_cases p1 : dataE (moreD d (some ⟨g, 0, none⟩) cap x) = 0
      · have r0 := right_of p0
        have r1 := right_of p1
        obtain ⟨q1, q2⟩ := more_new r0 r1
        have z3 := zone_is (nm := x.name) p1 (by omega)
        have z4 := zone_is (nm := x.to) p0 (by omega)
        rw [q1] at z3
        rw [z3.1, z3.2] at Z3
        rw [z4.1, z4.2] at Z4
        rw [p0] at C1
        rw [p1] at C2
        obtain ⟨L, hL⟩ : ∃ L, L = leadN d x.to := ⟨_, rfl⟩
        rw [← hL] at Z3 Z4
        cases hs : same x.name nm
        · have gs : (nm.toList == x.name.toList) = false := by rw [same_comm] at hs; exact hs
          have e0 := more_same (A := some ⟨g, 0, none⟩) (c := cap) r0 hs
          have e1 : zoneK (moreD d (some ⟨g, 0, none⟩) cap x) nm = zoneK d nm ∧ zoneEr (moreD d (some ⟨g, 0, none⟩) cap x) nm = zoneEr d nm := by
            unfold zoneK zoneEr
            rw [p0, p1, e0]
            exact ⟨rfl, rfl⟩
          rw [e1.1, e1.2] at Z2
          obtain ⟨KK, hK⟩ : ∃ v, v = zoneK d nm := ⟨_, rfl⟩
          obtain ⟨EE, hE⟩ : ∃ v, v = zoneEr d nm := ⟨_, rfl⟩
          rw [← hK, ← hE] at Z1 Z2
          clear p0 p1 r0 r1 q1 q2 z3 z4 hL hs e0 e1 hK hE
          go_wp2_with fail
          refine (C1.out _ (Below.refl _ _)).mono ?_
          rintro e w3 ⟨rfl, h3⟩
          clear c0 c1 c2 x0 x1 m0 m1 m2
          obtain ⟨_, _, _, ⟨c0, c1, c2⟩, ⟨x0, x1⟩, m0, m1, m2⟩ := HZ.out _ h3
          go_wp2_with fail
          refine (C2.out _ h3).mono ?_
          rintro e w4 ⟨rfl, h4⟩
          clear c0 c1 c2 x0 x1 m0 m1 m2
          obtain ⟨_, _, _, ⟨c0, c1, c2⟩, ⟨x0, x1⟩, m0, m1, m2⟩ := HZ.out _ h4
          go_wp2_with fail
          refine (Z1.out _ h4).mono ?_
          rintro e w5 ⟨rfl, h5⟩
          clear c0 c1 c2 x0 x1 m0 m1 m2
          obtain ⟨_, _, _, ⟨c0, c1, c2⟩, ⟨x0, x1⟩, m0, m1, m2⟩ := HZ.out _ h5
          go_wp2_with fail
          refine (Z2.out _ h5).mono ?_
          rintro e w6 ⟨rfl, h6⟩
          clear c0 c1 c2 x0 x1 m0 m1 m2
          obtain ⟨_, _, _, ⟨c0, c1, c2⟩, ⟨x0, x1⟩, m0, m1, m2⟩ := HZ.out _ h6
          go_wp2_with fail
          refine (Z3.out _ h6).mono ?_
          rintro e w7 ⟨rfl, h7⟩
          clear c0 c1 c2 x0 x1 m0 m1 m2
          obtain ⟨_, _, _, ⟨c0, c1, c2⟩, ⟨x0, x1⟩, m0, m1, m2⟩ := HZ.out _ h7
          go_wp2_with fail
          refine (Z4.out _ h7).mono ?_
          rintro e w8 ⟨rfl, h8⟩
          clear c0 c1 c2 x0 x1 m0 m1 m2
          obtain ⟨_, _, _, ⟨c0, c1, c2⟩, ⟨x0, x1⟩, m0, m1, m2⟩ := HZ.out _ h8
          go_wp2_with fail
          refine (B1.out _ h8).mono ?_
          rintro e w9 ⟨rfl, h9⟩
          clear c0 c1 c2 x0 x1 m0 m1 m2
          obtain ⟨_, _, _, ⟨c0, c1, c2⟩, ⟨x0, x1⟩, m0, m1, m2⟩ := HZ.out _ h9
          go_wp2
          go_ret
          exact ⟨rfl, (HZ.out _ h9).1⟩
        · have gs : (nm.toList == x.name.toList) = true := by rw [same_comm] at hs; exact hs
          obtain ⟨KK, hK⟩ : ∃ v, v = zoneK d nm := ⟨_, rfl⟩
          obtain ⟨EE, hE⟩ : ∃ v, v = zoneEr d nm := ⟨_, rfl⟩
          obtain ⟨KL, hK2⟩ : ∃ v, v = zoneK (moreD d (some ⟨g, 0, none⟩) cap x) nm := ⟨_, rfl⟩
          obtain ⟨EL, hE2⟩ : ∃ v, v = zoneEr (moreD d (some ⟨g, 0, none⟩) cap x) nm := ⟨_, rfl⟩
          rw [← hK, ← hE] at Z1
          rw [← hK2, ← hE2] at Z2
          clear p0 p1 r0 r1 q1 q2 z3 z4 hL hs hK hE hK2 hE2
          go_wp2_with fail
          refine (C1.out _ (Below.refl _ _)).mono ?_
          rintro e w3 ⟨rfl, h3⟩
          clear c0 c1 c2 x0 x1 m0 m1 m2
          obtain ⟨_, _, _, ⟨c0, c1, c2⟩, ⟨x0, x1⟩, m0, m1, m2⟩ := HZ.out _ h3
          go_wp2_with fail
          refine (C2.out _ h3).mono ?_
          rintro e w4 ⟨rfl, h4⟩
          clear c0 c1 c2 x0 x1 m0 m1 m2
          obtain ⟨_, _, _, ⟨c0, c1, c2⟩, ⟨x0, x1⟩, m0, m1, m2⟩ := HZ.out _ h4
          go_wp2_with fail
          refine (Z1.out _ h4).mono ?_
          rintro e w5 ⟨rfl, h5⟩
          clear c0 c1 c2 x0 x1 m0 m1 m2
          obtain ⟨_, _, _, ⟨c0, c1, c2⟩, ⟨x0, x1⟩, m0, m1, m2⟩ := HZ.out _ h5
          go_wp2_with fail
          refine (Z2.out _ h5).mono ?_
          rintro e w6 ⟨rfl, h6⟩
          clear c0 c1 c2 x0 x1 m0 m1 m2
          obtain ⟨_, _, _, ⟨c0, c1, c2⟩, ⟨x0, x1⟩, m0, m1, m2⟩ := HZ.out _ h6
          go_wp2_with fail
          refine (Z3.out _ h6).mono ?_
          rintro e w7 ⟨rfl, h7⟩
          clear c0 c1 c2 x0 x1 m0 m1 m2
          obtain ⟨_, _, _, ⟨c0, c1, c2⟩, ⟨x0, x1⟩, m0, m1, m2⟩ := HZ.out _ h7
          go_wp2_with fail
          refine (Z4.out _ h7).mono ?_
          rintro e w8 ⟨rfl, h8⟩
          clear c0 c1 c2 x0 x1 m0 m1 m2
          obtain ⟨_, _, _, ⟨c0, c1, c2⟩, ⟨x0, x1⟩, m0, m1, m2⟩ := HZ.out _ h8
          go_wp2_with fail
          refine (B1.out _ h8).mono ?_
          rintro e w9 ⟨rfl, h9⟩
          clear c0 c1 c2 x0 x1 m0 m1 m2
          obtain ⟨_, _, _, ⟨c0, c1, c2⟩, ⟨x0, x1⟩, m0, m1, m2⟩ := HZ.out _ h9
          go_wp2
          go_ret
          exact ⟨rfl, (HZ.out _ h9).1⟩
      · have pb : (dataE (moreD d (some ⟨g, 0, none⟩) cap x) != 0) = true := by simpa using p1
        rw [p0] at C1
        obtain ⟨DD, hDD⟩ : ∃ v, v = dataE (moreD d (some ⟨g, 0, none⟩) cap x) := ⟨_, rfl⟩
        rw [← hDD] at C2 pb
        clear p0 p1 hDD Z1 Z2 Z3 Z4
        go_wp2_with fail
        refine (C1.out _ (Below.refl _ _)).mono ?_
        rintro e w3 ⟨rfl, h3⟩
        clear c0 c1 c2 x0 x1 m0 m1 m2
        obtain ⟨_, _, _, ⟨c0, c1, c2⟩, ⟨x0, x1⟩, m0, m1, m2⟩ := HZ.out _ h3
        go_wp2_with fail
        refine (C2.out _ h3).mono ?_
        rintro e w4 ⟨rfl, h4⟩
        clear c0 c1 c2 x0 x1 m0 m1 m2
        obtain ⟨_, _, _, ⟨c0, c1, c2⟩, ⟨x0, x1⟩, m0, m1, m2⟩ := HZ.out _ h4
        go_wp2_with fail
        refine (B1.out _ h4).mono ?_
        rintro e w5 ⟨rfl, h5⟩
        clear c0 c1 c2 x0 x1 m0 m1 m2
        obtain ⟨_, _, _, ⟨c0, c1, c2⟩, ⟨x0, x1⟩, m0, m1, m2⟩ := HZ.out _ h5
        go_wp2
        go_ret
        exact ⟨rfl, (HZ.out _ h5).1⟩
    · have pb : (dataE d != 0) = true := by simpa using p0
      obtain ⟨DD, hDD⟩ : ∃ v, v = dataE d := ⟨_, rfl⟩
      rw [← hDD] at C1 pb
      clear p0 hDD Z1 Z2 Z3 Z4 C2
      go_wp2_with fail
      refine (C1.out _ (Below.refl _ _)).mono ?_
      rintro e w3 ⟨rfl, h3⟩
      clear c0 c1 c2 x0 x1 m0 m1 m2
      obtain ⟨_, _, _, ⟨c0, c1, c2⟩, ⟨x0, x1⟩, m0, m1, m2⟩ := HZ.out _ h3
      go_wp2_with fail
      refine (B1.out _ h3).mono ?_
      rintro e w4 ⟨rfl, h4⟩
      clear c0 c1 c2 x0 x1 m0 m1 m2
      obtain ⟨_, _, _, ⟨c0, c1, c2⟩, ⟨x0, x1⟩, m0, m1, m2⟩ := HZ.out _ h4
      go_wp2
      go_ret
      exact ⟨rfl, (HZ.out _ h4).1⟩
end Go.Proofs.Ytlngalmdidaahaa
end
