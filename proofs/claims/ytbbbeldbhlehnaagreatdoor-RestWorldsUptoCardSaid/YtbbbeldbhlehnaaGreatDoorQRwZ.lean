/- The reference's OwnData: its regions that lay one more set, one more zone. -/
import Derived.Deep.RegionHeld3
import Derived.Test.YtbbbeldbhlehnaaGreatDoorQRwD
import Derived.Test.YtbbbeldbhlehnaaGreatDoorMUTrB223
set_option linter.unusedSimpArgs false
set_option linter.unusedVariables false
namespace Go.Proofs.YtbbbeldbhlehnaaGreatDoor
open Go.RowKit Gno
noncomputable def ownZoneR : Code := ((Tryz.f29.body.bind (findReg 9)).getD .skip)
set_option maxRecDepth 100000 in
set_option maxHeartbeats 8000000 in
theorem own_zone_reg (H X b o n c m cp i : Nat) (A : Option Addr) (nm : ByteArray) (xs : List Value) (v y1 y2 z1 z2 : Value) (ps : List Pc) (W1 W : World) (Q : Exit → Act → World → Prop) (s0 s2 s4 s6 s7 s8 s9 s10 s11 s12 s13 s14 s15 s16 s17 s18 s19 s20 s21 s22 s23 s24 s25 s26 s27 s28 s29 s30 s31 s32 s33 s34 s35 s36 s37 s38 s39 s40 s41 s42 s43 s44 s45 s46 s47 s48 s49 s50 s51 s52 s53 s54 s55 s56 s57 s58 s59 s60 s61 s62 s63 s64 s65 : Value)
 (hX : X < W1.heap.size) (hg : W1.grownBy W (some X)) (hR : ROwn 54 125 5 W1.heap.size W v ps)
 (hout : W.heap[X]? = some (.cells #[z1, v, z2] 26)) (hH : H < W1.heap.size) (hHX : H ≠ X) (hd : W.heap[H]? = some (.cells #[y1, .slice (some ⟨b, o, none⟩) n c, y2] 26))
 (hb : b < W1.heap.size) (hbX : b ≠ X) (e0 : W.cell? ⟨b, o + i * 2, none⟩ = some (.string nm)) (e1 : W.cell? ⟨b, o + i * 2 + 1, none⟩ = some (.slice A m cp)) (hi : i < n) (hn : n ≤ 5)
 (hm0 : A = none → m = 0) (hm : m ≤ 4) (hl : xs.length = m * 5) (h1 : ∀ u ∈ xs, u.oneCell' = true) (hrd : ∀ W', Below W.heap.size W W' → ∀ ad, A = some ad → ∀ j u, xs[j]? = some u → W'.cell? (ad.add j) = some u) (hps : ps.length ≤ 5)
 (hQ : ∀ W' v' u, ROwn 54 125 5 W1.heap.size W' v' (ps ++ [⟨u, nm, m, xs⟩]) → W1.grownBy W' (some X) → W'.heap[X]? = some (.cells #[z1, v', z2] 26) → ∀ t45 t46 t47 t48 t49 t50 t51 t52 t53 t54 t55 t56 t57 t58 t59 t60 t61 t62 t63 t64 : Value, Q .normal ⟨#[s0, .pointer (some ⟨H, 0, none⟩), s2, .pointer (some ⟨X, 0, none⟩), s4, .int .i64 i, s6, s7, s8, s9, s10, s11, s12, s13, s14, s15, s16, s17, s18, s19, s20, s21, s22, s23, s24, s25, s26, s27, s28, s29, s30, s31, s32, s33, s34, s35, s36, s37, s38, s39, s40, s41, s42, s43, s44, t45, t46, t47, t48, t49, t50, t51, t52, t53, t54, t55, t56, t57, t58, t59, t60, t61, t62, t63, t64, s65], []⟩ W') :
 ownZoneR.wp Tryz.prog Q ⟨#[s0, .pointer (some ⟨H, 0, none⟩), s2, .pointer (some ⟨X, 0, none⟩), s4, .int .i64 i, s6, s7, s8, s9, s10, s11, s12, s13, s14, s15, s16, s17, s18, s19, s20, s21, s22, s23, s24, s25, s26, s27, s28, s29, s30, s31, s32, s33, s34, s35, s36, s37, s38, s39, s40, s41, s42, s43, s44, s45, s46, s47, s48, s49, s50, s51, s52, s53, s54, s55, s56, s57, s58, s59, s60, s61, s62, s63, s64, s65], []⟩ W := by
 have hXW : X < W.heap.size := Nat.lt_of_lt_of_le hX hg.size
 have hHW : H < W.heap.size := Nat.lt_of_lt_of_le hH hg.size
 have hvb : ∀ j, v.ownBlock = some j → W1.heap.size ≤ j := fun j h => (hR.row.lt j h).1
 have hne : ∀ j, j < W1.heap.size → some j ≠ v.ownBlock := fun j hj e => by have := hvb j e.symm; omega
 have HS : Hid (∀ W', W.grownBy W' v.ownBlock → W'.cell? ⟨H, 1, none⟩ = some (.slice (some ⟨b, o, none⟩) n c) ∧ W'.cell? ⟨b, o + i * 2, none⟩ = some (.string nm) ∧ W'.cell? ⟨b, o + i * 2 + 1, none⟩ = some (.slice A m cp)) := Lib.hid fun W' h =>
  ⟨h.cell (cell_of hd rfl) (hne H hH), h.cell e0 (hne b hb), h.cell e1 (hne b hb)⟩
 have HV : Hid (∀ W', W.grownBy W' v.ownBlock → W'.cell? ⟨X, 1, none⟩ = some v ∧ W'.frozen? ⟨X, 1, none⟩ = false) := Lib.hid fun W' h => by
  have h2 := h.block X hXW (hne X hX)
  have h3 := h2.trans hout
  exact ⟨cell_of h3 rfl, frozen_of h3⟩
 have HO : Hid (∀ W', W.grownBy W' v.ownBlock → W'.heap[X]? = some (.cells #[z1, v, z2] 26)) := Lib.hid fun W' h => (h.block X hXW (hne X hX)).trans hout
 have hi0 : (0 : Int) ≤ (i : Int) := Int.natCast_nonneg _
 have hi1 : (i : Int) < (n : Int) := by omega
 have BD : Hid (Below W.heap.size W W.drew) := Lib.hid (Below.refl _ _).drew
 have BA : Hid (Below W.heap.size W ((W.alloc (.cells #[] 125)).drew)) := Lib.hid ((Below.refl _ _).alloc (Nat.le_refl _) _).drew
 have OA : Hid (((W.alloc (.cells #[] 125)).drew).ownsRow W.heap.size 125 5 (.slice (some ⟨W.heap.size, 0, none⟩) 0 0) 0 []) := Lib.hid ⟨rfl, .inr ⟨W.heap.size, 0, _, rfl, Nat.le_refl _, World.alloc_heap_new W _, Nat.le_refl _, by unfold maxLen; omega, rfl, rfl⟩⟩
 have HQ := Lib.hid hQ
 have HRD := Lib.hid hrd
 have HR := Lib.hid hR
 have HG := Lib.hid hg
 have H1 := Lib.hid h1
 have BN : Hid (∀ W', Below W.heap.size W W' → W.grownBy W' v.ownBlock) := Lib.hid fun W' h => (grown_of_below h).but _
 clear hQ hrd hR hg hout hd e0 e1 h1 hvb hne
 conv => arg 2; whnf
 refine wp_region_noPanic ?_
 refine wp_region_held_drew (S := (fun w' => w'.cell? ⟨H, 1, none⟩ = some (.slice (some ⟨b, o, none⟩) n c) ∧ w'.cell? ⟨b, o + i * 2, none⟩ = some (.string nm) ∧ w'.cell? ⟨b, o + i * 2 + 1, none⟩ = some (.slice A m cp))) (by kernel_rfl) (HS.out _ (BN.out _ BD.out)) (fun hHeld => ?_)
 refine wpAnyH_take (i := 0) (oi := _) (v := ?_) rfl (by kernel_rfl) (by kernel_rfl) (by kernel_rfl) (fun _ _ _ h => h) (Or.inl ⟨by rfl, ?_⟩) hHeld ?_
 rotate_left
 ·intro w hw; obtain ⟨k0, k1, k2⟩ := hw; go_simp <;> with_reducible rfl
 refine wpAnyH_take (i := 2) (oi := _) (v := ?_) rfl (by kernel_rfl) (by kernel_rfl) (by kernel_rfl) (fun _ _ _ h => h) (Or.inl ⟨by rfl, ?_⟩) hHeld ?_
 rotate_left
 ·intro w hw; obtain ⟨k0, k1, k2⟩ := hw; go_simp <;> with_reducible rfl
 refine wpAnyH_take (i := 3) (oi := _) (v := ?_) rfl (by kernel_rfl) (by kernel_rfl) (by kernel_rfl) (fun _ _ _ h => h) (Or.inl ⟨by rfl, ?_⟩) hHeld ?_
 rotate_left
 ·intro w hw; obtain ⟨k0, k1, k2⟩ := hw; go_simp <;> with_reducible rfl
 refine wpAnyH_take (i := 4) (oi := _) (v := ?_) rfl (by kernel_rfl) (by kernel_rfl) (by kernel_rfl) (fun _ _ _ h => h) (Or.inl ⟨by rfl, ?_⟩) hHeld ?_
 rotate_left
 ·intro w hw; obtain ⟨k0, k1, k2⟩ := hw; go_simp <;> with_reducible rfl
 refine wpAnyH_take (i := 5) (oi := _) (v := ?_) rfl (by kernel_rfl) (by kernel_rfl) (by kernel_rfl) (fun _ _ _ h => h) (Or.inl ⟨by rfl, ?_⟩) hHeld ?_
 rotate_left
 ·intro w hw; obtain ⟨k0, k1, k2⟩ := hw; go_simp <;> with_reducible rfl
 refine wpAnyH_take (i := 6) (oi := _) (v := ?_) rfl (by kernel_rfl) (by kernel_rfl) (by kernel_rfl) (fun _ _ _ h => h) (Or.inl ⟨by rfl, ?_⟩) hHeld ?_
 rotate_left
 ·intro w hw; obtain ⟨k0, k1, k2⟩ := hw; go_simp <;> with_reducible rfl
 refine wpAnyH_take (i := 7) (oi := _) (v := ?_) rfl (by kernel_rfl) (by kernel_rfl) (by kernel_rfl) (fun _ _ _ h => h) (Or.inl ⟨by rfl, ?_⟩) hHeld ?_
 rotate_left
 ·intro w hw; obtain ⟨k0, k1, k2⟩ := hw; go_simp <;> with_reducible rfl
 refine wpAnyH_take (i := 9) (oi := _) (v := ?_) rfl (by kernel_rfl) (by kernel_rfl) (by kernel_rfl) (fun _ _ _ h => h) (Or.inl ⟨by rfl, ?_⟩) hHeld ?_
 rotate_left
 ·intro w hw; obtain ⟨k0, k1, k2⟩ := hw; go_simp <;> with_reducible rfl
 refine wpAnyH_take (i := 10) (oi := _) (v := ?_) rfl (by kernel_rfl) (by kernel_rfl) (by kernel_rfl) (fun _ _ _ h => h) (Or.inl ⟨by rfl, ?_⟩) hHeld ?_
 rotate_left
 ·intro w hw; obtain ⟨k0, k1, k2⟩ := hw; go_simp <;> with_reducible rfl
 refine wpAnyH_take (i := 11) (oi := _) (v := ?_) rfl (by kernel_rfl) (by kernel_rfl) (by kernel_rfl) (fun _ _ _ h => h) (Or.inl ⟨by rfl, ?_⟩) hHeld ?_
 rotate_left
 ·intro w hw; obtain ⟨k0, k1, k2⟩ := hw; go_simp <;> with_reducible rfl
 refine wpAnyH_take (i := 12) (oi := _) (v := ?_) rfl (by kernel_rfl) (by kernel_rfl) (by kernel_rfl) (fun _ _ _ h => h) (Or.inl ⟨by rfl, ?_⟩) hHeld ?_
 rotate_left
 ·intro w hw; obtain ⟨k0, k1, k2⟩ := hw; go_simp <;> with_reducible rfl
 refine wpAnyH_take (i := 13) (oi := _) (v := ?_) rfl (by kernel_rfl) (by kernel_rfl) (by kernel_rfl) (fun _ _ _ h => h) (Or.inl ⟨by rfl, ?_⟩) hHeld ?_
 rotate_left
 ·intro w hw; obtain ⟨k0, k1, k2⟩ := hw; go_simp <;> with_reducible rfl
 refine wpAnyH_take (i := 14) (oi := _) (v := ?_) rfl (by kernel_rfl) (by kernel_rfl) (by kernel_rfl) (fun _ _ _ h => h) (Or.inl ⟨by rfl, ?_⟩) hHeld ?_
 rotate_left
 ·intro w hw; obtain ⟨k0, k1, k2⟩ := hw; go_simp <;> with_reducible rfl
 try simp only [List.getElem_toArray, List.getElem_cons_zero, List.getElem_cons_succ, Act.put, List.setIfInBounds_toArray, List.set_cons_zero, List.set_cons_succ]
 refine wpAnyH_ready (rs := [1, 8]) (by kernel_rfl) (by simp) ?_
 refine (AllReadyH.cons (o := _) rfl (fun K hK => ?_) (AllReadyH.cons (o := _) rfl (fun K hK => ?_) AllReadyH.nil))
 obtain ⟨f0, f1⟩ := HV.out _ (BN.out _ BD.out)
 simp only [List.getElem_toArray, List.getElem_cons_zero, List.getElem_cons_succ]
 go_simp
 refine hK.out _ _ (HS.out _ (BN.out _ BD.out)) (fun hHeld => ?_)
 clear hK K
 rotate_left
 simp only [List.getElem_toArray, List.getElem_cons_zero, List.getElem_cons_succ]
 go_simp
 refine hK.out _ _ (HS.out _ (BN.out _ BA.out)) (fun hHeld => ?_)
 clear hK K
 all_goals first
  | (
    refine wpAnyH_ready (rs := [8]) (by kernel_rfl) (by simp) ?_
    refine (AllReadyH.cons (o := _) rfl (fun K hK => ?_) AllReadyH.nil)
    simp only [List.getElem_toArray, List.getElem_cons_zero, List.getElem_cons_succ]
    go_simp
    refine hK.out _ _ (HS.out _ (BN.out _ BA.out)) (fun hHeld => ?_)
    clear hK K)
  | skip
 refine wpAnyH_ready (rs := [1, 15]) (by kernel_rfl) (by simp) ?_
 refine (AllReadyH.cons (o := _) rfl (fun K hK => ?_) (AllReadyH.cons (o := _) rfl (fun K hK => ?_) AllReadyH.nil))
 obtain ⟨f0, f1⟩ := HV.out _ (BN.out _ BA.out)
 simp only [List.getElem_toArray, List.getElem_cons_zero, List.getElem_cons_succ]
 go_simp
 refine hK.out _ _ (HS.out _ (BN.out _ BA.out)) (fun hHeld => ?_)
 clear hK K
 rotate_left
 simp only [List.getElem_toArray, List.getElem_cons_zero, List.getElem_cons_succ]
 rw [if_pos (by rfl)]
 refine wp_appc _ _ _ 52 rfl W.heap.size 125 (.agg #[.int .i64 0, .int .i64 0, .int .i64 0, .string ⟨#[]⟩, .int .i64 0]) 5 48 Tryz.underlying52 infoEra rfl (by decide) _ 0 [] rfl OA.out A m cp xs rfl hm0 hl (fun ad hA => HRD.out _ BA.out ad hA) H1.out (by unfold maxLen; omega) (by omega) BA.out.size ?_
 intro u w1 hown1 hg1 hn1
 have B1 : Hid (Below W.heap.size W w1) := Lib.hid (BA.out.grown hg1 BA.out.size (fun k hk => (OA.out.lt k hk).1))
 rw [Nat.zero_add, List.nil_append] at hown1
 have O1 := Lib.hid hown1
 obtain ⟨Au, cu, rfl, _⟩ := own_form hown1
 have B2 : Hid (Below W.heap.size W (w1.alloc (.cells #[.string nm, .slice Au m cu] 54))) := Lib.hid (B1.out.alloc B1.out.size _)
 clear hown1 hg1 hn1
 refine hK.out _ _ (HS.out _ (BN.out _ B1.out)) (fun hHeld => ?_)
 clear hK K
 refine wpAnyH_take (i := 16) (oi := _) (v := ?_) rfl (by kernel_rfl) (by kernel_rfl) (by kernel_rfl) (fun _ _ _ h => h) (Or.inl ⟨by rfl, ?_⟩) hHeld ?_
 rotate_left
 ·intro w hw; obtain ⟨k0, k1, k2⟩ := hw; go_simp <;> with_reducible rfl
 try simp only [List.getElem_toArray, List.getElem_cons_zero, List.getElem_cons_succ, Act.put, List.setIfInBounds_toArray, List.set_cons_zero, List.set_cons_succ]
 all_goals first
  | (
    refine wpAnyH_ready (rs := [15]) (by kernel_rfl) (by simp) ?_
    refine (AllReadyH.cons (o := _) rfl (fun K hK => ?_) AllReadyH.nil)
    simp only [List.getElem_toArray, List.getElem_cons_zero, List.getElem_cons_succ]
    rw [if_pos (by rfl)]
    refine wp_appc _ _ _ 52 rfl W.heap.size 125 (.agg #[.int .i64 0, .int .i64 0, .int .i64 0, .string ⟨#[]⟩, .int .i64 0]) 5 48 Tryz.underlying52 infoEra rfl (by decide) _ 0 [] rfl OA.out A m cp xs rfl hm0 hl (fun ad hA => HRD.out _ BA.out ad hA) H1.out (by unfold maxLen; omega) (by omega) BA.out.size ?_
    intro u w1 hown1 hg1 hn1
    have B1 : Hid (Below W.heap.size W w1) := Lib.hid (BA.out.grown hg1 BA.out.size (fun k hk => (OA.out.lt k hk).1))
    rw [Nat.zero_add, List.nil_append] at hown1
    have O1 := Lib.hid hown1
    obtain ⟨Au, cu, rfl, _⟩ := own_form hown1
    have B2 : Hid (Below W.heap.size W (w1.alloc (.cells #[.string nm, .slice Au m cu] 54))) := Lib.hid (B1.out.alloc B1.out.size _)
    clear hown1 hg1 hn1
    refine hK.out _ _ (HS.out _ (BN.out _ B1.out)) (fun hHeld => ?_)
    clear hK K
    refine wpAnyH_take (i := 16) (oi := _) (v := ?_) rfl (by kernel_rfl) (by kernel_rfl) (by kernel_rfl) (fun _ _ _ h => h) (Or.inl ⟨by rfl, ?_⟩) hHeld ?_
    rotate_left
    ·intro w hw; obtain ⟨k0, k1, k2⟩ := hw; go_simp <;> with_reducible rfl
    try simp only [List.getElem_toArray, List.getElem_cons_zero, List.getElem_cons_succ, Act.put, List.setIfInBounds_toArray, List.set_cons_zero, List.set_cons_succ])
  | skip
 refine wpAnyH_ready (rs := [1, 17]) (by kernel_rfl) (by simp) ?_
 refine (AllReadyH.cons (o := _) rfl (fun K hK => ?_) (AllReadyH.cons (o := _) rfl (fun K hK => ?_) AllReadyH.nil))
 obtain ⟨f0, f1⟩ := HV.out _ (BN.out _ B1.out)
 simp only [List.getElem_toArray, List.getElem_cons_zero, List.getElem_cons_succ]
 go_simp
 refine hK.out _ _ (HS.out _ (BN.out _ B1.out)) (fun hHeld => ?_)
 clear hK K
 rotate_left
 simp only [List.getElem_toArray, List.getElem_cons_zero, List.getElem_cons_succ]
 go_simp
 refine hK.out _ _ (HS.out _ (BN.out _ B2.out)) (fun hHeld => ?_)
 clear hK K
 all_goals first
  | (
    refine wpAnyH_ready (rs := [17]) (by kernel_rfl) (by simp) ?_
    refine (AllReadyH.cons (o := _) rfl (fun K hK => ?_) AllReadyH.nil)
    simp only [List.getElem_toArray, List.getElem_cons_zero, List.getElem_cons_succ]
    go_simp
    refine hK.out _ _ (HS.out _ (BN.out _ B2.out)) (fun hHeld => ?_)
    clear hK K)
  | skip
 refine wpAnyH_ready (rs := [1]) (by kernel_rfl) (by simp) ?_
 refine (AllReadyH.cons (o := _) rfl (fun K hK => ?_) AllReadyH.nil)
 obtain ⟨f0, f1⟩ := HV.out _ (BN.out _ B2.out)
 simp only [List.getElem_toArray, List.getElem_cons_zero, List.getElem_cons_succ]
 go_simp
 refine hK.out _ _ (HS.out _ (BN.out _ B2.out)) (fun hHeld => ?_)
 clear hK K
 all_goals (
  refine wpAnyH_ready (rs := [18]) (by kernel_rfl) (by simp) ?_
  refine (AllReadyH.cons (o := _) rfl (fun K hK => ?_) AllReadyH.nil)
  simp only [List.getElem_toArray, List.getElem_cons_zero, List.getElem_cons_succ]
  rw [if_pos (by rfl)]
  refine wp_appc _ _ _ 23 rfl W1.heap.size 54 (.agg #[.string ⟨#[]⟩, .slice none 0 0]) 2 40 Tryz.underlying23 infoZone rfl (by decide) v ps.length (rcs ps) rfl (HR.out.kept (grown_of_below B2.out)).row (some ⟨w1.heap.size, 0, none⟩) 1 1 [.string nm, .slice Au m cu] rfl (fun h => by cases h) rfl (fun ad hA => by obtain rfl := Option.some.inj hA; exact laid_at (cs := #[.string nm, .slice Au m cu])) (by intro u hu; simp at hu; rcases hu with rfl | rfl <;> rfl) (by unfold maxLen; omega) (by omega) (Nat.le_trans HG.out.size B2.out.size) ?_
  intro v3 w3 hown3 hg3 hn3
  obtain ⟨A3, c3, rfl, _⟩ := own_form hown3
  have ST := Lib.hid (ROwn.step (j := 1) hX HG.out HR.out B1.out O1.out hg3 hown3 hn3)
  have G3 : Hid (W.grownBy w3 v.ownBlock) := Lib.hid ((BN.out _ B2.out).trans hg3)
  have HZ := Lib.hid (HQ.out _ _ _ ST.out.1 ST.out.2 ((set_obj (o := 1) (HO.out _ G3.out) (.slice A3 (ps.length + 1) c3)).trans rfl))
  clear hown3 hg3 hn3
  refine hK.out _ _ (HS.out _ (G3.out)) (fun hHeld => ?_)
  clear hK K
  refine wpAnyH_take (i := 19) (oi := _) (v := ?_) rfl (by kernel_rfl) (by kernel_rfl) (by kernel_rfl) (fun _ _ _ h => h) (Or.inl ⟨by rfl, ?_⟩) hHeld ?_
  rotate_left
  ·intro w hw; obtain ⟨k0, k1, k2⟩ := hw; go_simp <;> with_reducible rfl
  try simp only [List.getElem_toArray, List.getElem_cons_zero, List.getElem_cons_succ, Act.put, List.setIfInBounds_toArray, List.set_cons_zero, List.set_cons_succ]
  refine wpAnyH_ready (rs := [20]) (by kernel_rfl) (by simp) ?_
  refine (AllReadyH.cons (o := _) rfl (fun K hK => ?_) AllReadyH.nil)
  obtain ⟨f0, f1⟩ := HV.out _ G3.out
  simp only [List.getElem_toArray, List.getElem_cons_zero, List.getElem_cons_succ]
  go_simp
  refine hK.out _ _ ?_ (fun hHeld => ?_)
  ·obtain ⟨k0, k1, k2⟩ := HS.out _ G3.out
   refine ⟨?_, ?_, ?_⟩ <;> (rw [World.cell?_setCell_far _ _ _ _ (by first | (simp; done) | (simp; omega))]; assumption)
  clear hK K f0 f1
  try simp only [List.getElem_toArray, List.getElem_cons_zero, List.getElem_cons_succ, Act.put, List.setIfInBounds_toArray, List.set_cons_zero, List.set_cons_succ]
  refine wpAnyH_done (by kernel_rfl) ?_ _
  exact HZ.out _ _ _ _ _ _ _ _ _ _ _ _ _ _ _ _ _ _ _ _)
end Go.Proofs.YtbbbeldbhlehnaaGreatDoor
