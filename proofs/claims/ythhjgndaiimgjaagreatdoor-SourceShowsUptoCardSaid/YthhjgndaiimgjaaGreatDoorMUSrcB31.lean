/- Parts of a proof, laid together. -/
import Derived.Test.YthhjgndaiimgjaaGreatDoorMUSrcB30
set_option linter.unusedSimpArgs false
set_option linter.unusedVariables false
/-! source.line: a line of a rule. -/
section
set_option linter.unusedVariables false
set_option linter.unusedSimpArgs false
set_option maxRecDepth 100000
namespace Gno
open Go Go.RowKit Go.Proofs.YthhjgndaiimgjaaGreatDoor
theorem numsP_len : ∀ {k : Nat} {ws r : List Bt} {l : List Int}, numsP k ws = some (l, r) → l.length = k
  | 0, ws, r, l, h => by
    simp only [numsP, Option.some.injEq, Prod.mk.injEq] at h
    rw [← h.1]; rfl
  | k + 1, ws, r, l, h => by
    simp only [numsP] at h
    cases hp : numP ws with
    | none => rw [hp] at h; cases h
    | some q =>
      obtain ⟨v, t⟩ := q
      rw [hp] at h
      simp only at h
      cases hq : numsP k t with
      | none => rw [hq] at h; cases h
      | some q =>
        obtain ⟨l2, r2⟩ := q
        rw [hq] at h
        simp only [Option.map_some, Option.some.injEq, Prod.mk.injEq] at h
        rw [← h.1, List.length_cons, numsP_len hq]
theorem rule_done {B X pw g cap : Nat} {vz vl u : Value} {p0 pz : List Pc} {p : Pc} {c : Cn} {S : List (Bt × List (List Int × Bt))} {a : Bt} {rs : List (List Int × Bt)} {r : List Int × Bt} {t : List Bt} {w w2 w3 : World}
    (h2 : DHold B (.slice (some ⟨g, 0, none⟩) (p0.length + 1) cap) vz vl (p0 ++ [p]) pz c w2) (hx2 : XAt X (.slice (some ⟨g, 0, none⟩) (p0.length + 1) cap) vz vl w2) (hl2 : WLeft B pw t w2) (hg0 : LG B X pw w w2) (hB2 : B ≤ w2.heap.size) (hBg : B ≤ g)
    (hc : c.ss = S ++ [(a, rs)]) (h0 : p0.map pcT = S.map stT) (h1 : pcT p = stT (a, rs))
    (hown : w3.ownsRow B 53 9 u (p.n + 1) (p.xs ++ rlCells (rlOf r))) (hg : (w2.alloc (.cells (rlCells (rlOf r)).toArray 53)).grownBy w3 p.v.ownBlock) (hn : NearOr (w2.alloc (.cells (rlCells (rlOf r)).toArray 53)) p.v u) :
    DOwn B X { c with ss := ontoLast c.ss r } (w3.setCell ⟨g, p0.length * 2 + 1, none⟩ u) ∧ (∃ vs vz vl, XAt X vs vz vl (w3.setCell ⟨g, p0.length * 2 + 1, none⟩ u)) ∧ WLeft B pw t (w3.setCell ⟨g, p0.length * 2 + 1, none⟩ u) ∧ LG B X pw w (w3.setCell ⟨g, p0.length * 2 + 1, none⟩ u) := by
  have hb : Below w2.heap.size w2 (w2.alloc (.cells (rlCells (rlOf r)).toArray 53)) := (Below.refl _ _).alloc (Nat.le_refl _) _
  have ha := h2.keep (keepD_below hb)
  have hp : (p0 ++ [p])[p0.length]? = some p := by simp
  have he := ha.sets.edge _ _ hp
  have h3 := ha.addRule hc h0 h1 hown hg hn
  have hx3 := (hx2.below hb).grown he (by decide) hg
  have hl3 : WLeft B pw t w3 := (hl2.kept hb).grown he hg (by decide) (by decide)
  have hrow := ow_keepT ha.sets.row (keepT_own he hg (by decide))
  obtain ⟨cc, hgT⟩ := ow_type hrow (g := g) rfl
  have hgX : g ≠ X := by
    rintro rfl
    unfold XAt at hx3
    rw [hgT] at hx3
    injection hx3 with hx3
    injection hx3 with _ e
    exact absurd e (by decide)
  obtain ⟨cw, hw⟩ := wl_block hl3
  have hgp : g ≠ pw := by
    rintro rfl
    rw [hgT] at hw
    injection hw with hw
    injection hw with _ e
    exact absurd e (by decide)
  have hx4 : XAt X (.slice (some ⟨g, 0, none⟩) (p0.length + 1) cap) vz vl (w3.setCell ⟨g, p0.length * 2 + 1, none⟩ u) := (Below.heap_setCell w3 ⟨g, _, none⟩ u X (fun e => hgX e.symm)).trans hx3
  refine ⟨⟨_, _, _, _, _, hx4, h3⟩, ⟨_, _, _, hx4⟩, hl3.set hgT (by decide) hgp _, ?_⟩
  exact (hg0.trans ((LG.of_below hB2 hb).trans (LG.of_own (by simp; omega) he (by decide) hg))).setRow hgT (by decide) hBg _ _
theorem near_of {w : World} {v : Value} {g n cap : Nat} (h : v.ownBlock = some g ∨ g = w.heap.size) : NearOr w v (.slice (some ⟨g, 0, none⟩) n cap) := by
  rcases h with h | h
  · exact .inl h.symm
  · refine .inr fun k hk => ?_
    simp [Value.ownBlock] at hk
    omega
theorem rule_last {B X pw g cap L N M : Nat} {vz vl pv : Value} {p0 pz : List Pc} {p : Pc} {c : Cn} {S : List (Bt × List (List Int × Bt))} {a : Bt} {rs : List (List Int × Bt)} {r : List Int × Bt} {t : List Bt} {cs : List Value} {w w2 w3 : World}
    (h2 : DHold B (.slice (some ⟨g, 0, none⟩) L cap) vz vl (p0 ++ [p]) pz c w2) (hx2 : XAt X (.slice (some ⟨g, 0, none⟩) L cap) vz vl w2) (hl2 : WLeft B pw t w2) (hg0 : LG B X pw w w2) (hB2 : B ≤ w2.heap.size) (hBg : B ≤ g)
    (hc : c.ss = S ++ [(a, rs)]) (h0 : p0.map pcT = S.map stT) (h1 : pcT p = stT (a, rs)) (hL : L = p0.length + 1) (hN : N = p0.length) (hpv : pv = p.v) (hM : M = p.n) (hcs : rlCells (rlOf r) = cs) {g2 cap2 : Nat}
    (hown : w3.ownsRow B 53 9 (.slice (some ⟨g2, 0, none⟩) (M + 1) cap2) (M + 1) (p.xs ++ cs)) (hg : (w2.alloc (.cells cs.toArray 53)).grownBy w3 pv.ownBlock) (hn : pv.ownBlock = some g2 ∨ g2 = (w2.alloc (.cells cs.toArray 53)).heap.size) :
    DOwn B X { c with ss := ontoLast c.ss r } (w3.setCell ⟨g, N * 2 + 1, none⟩ (.slice (some ⟨g2, 0, none⟩) (M + 1) cap2)) ∧ (∃ vs vz vl, XAt X vs vz vl (w3.setCell ⟨g, N * 2 + 1, none⟩ (.slice (some ⟨g2, 0, none⟩) (M + 1) cap2))) ∧ WLeft B pw t (w3.setCell ⟨g, N * 2 + 1, none⟩ (.slice (some ⟨g2, 0, none⟩) (M + 1) cap2)) ∧ LG B X pw w (w3.setCell ⟨g, N * 2 + 1, none⟩ (.slice (some ⟨g2, 0, none⟩) (M + 1) cap2)) := by
  subst hL hN hpv hM hcs
  exact rule_done h2 hx2 hl2 hg0 hB2 hBg hc h0 h1 hown hg (near_of hn)
theorem dh_row {B g L cap N : Nat} {T : TypeId} {p0 : List Pc} {p : Pc} {w : World} (h : w.ownsRow B T 2 (.slice (some ⟨g, 0, none⟩) L cap) (p0 ++ [p]).length (rcs (p0 ++ [p]))) (hL : L = p0.length + 1) (hN : N = p0.length) :
    w.cell? ⟨g, N * 2 + 1, none⟩ = some p.v ∧ w.frozen? ⟨g, N * 2 + 1, none⟩ = false := by
  have h1 : (p0 ++ [p]).length = L := by rw [hL]; simp
  rw [h1] at h
  obtain ⟨c, hc⟩ := ow_type h (g := g) rfl
  exact ⟨ow_cell h (by rw [hN, show rcs (p0 ++ [p]) = (p0 ++ [p]).flatMap pcCells2 from rfl, flat_get pcCells2_len (p0 ++ [p]) p0.length p 1 (by simp) (by decide)]; rfl), frozen_of hc⟩
theorem dh_row2 {B g L cap N : Nat} {T : TypeId} {p0 : List Pc} {p : Pc} {pv : Value} {w : World} (h : w.ownsRow B T 2 (.slice (some ⟨g, 0, none⟩) L cap) (p0 ++ [p]).length (rcs (p0 ++ [p]))) (hL : L = p0.length + 1) (hN : N = p0.length) (hpv : pv = p.v) :
    w.cell? ⟨g, N * 2 + 1, none⟩ = some pv ∧ w.frozen? ⟨g, N * 2 + 1, none⟩ = false := by
  subst hpv
  exact dh_row h hL hN
theorem dh_last {B sz L cap M : Nat} {g : Nat} {eo ei : TypeId} {p0 : List Pc} {p : Pc} {pv : Value} {w : World} (h : RO eo ei sz B w (.slice (some ⟨g, 0, none⟩) L cap) (p0 ++ [p])) (hpv : pv = p.v) (hM : M = p.n) : w.ownsRow B ei sz pv M p.xs := by
  subst hpv hM
  exact h.edge p0.length p (by simp)
end Gno
namespace Go.Proofs.YthhjgndaiimgjaaGreatDoor
open Go.RowKit Gno
theorem rule_yes {B pw : Nat} {ws t : List Bt} {l : List Int} {x : Bt} {w : World} (h : WLeft B pw ws w) (hq : numsP 8 ws = some (l, x :: t)) (hm : SMet w B) (hB : B ≤ w.heap.size) (hs : ∀ x ∈ ws, x.length ≤ 5000) (hl : ws.length ≤ 100000) :
    Calls Tryz.prog 66 #[.pointer (some ⟨pw, 0, none⟩)] w fun e w' => e = .returned (rlV l x) ∧ WLeft B pw t w' ∧ OnlyW B pw w w' := by
  refine (rule_read B pw ws w h hm hB hs hl).mono fun e w' q => ?_
  obtain ⟨h1, ⟨l', x', t', h2, h3, h4⟩ | ⟨h2, _⟩⟩ := q
  · rw [hq] at h2
    simp only [Option.some.injEq, Prod.mk.injEq, List.cons.injEq] at h2
    obtain ⟨rfl, rfl, rfl⟩ := h2
    exact ⟨h3, h4, h1⟩
  · rcases h2 with h2 | ⟨l', h2⟩ <;> (rw [hq] at h2; simp at h2)
theorem rule_no {B pw : Nat} {ws : List Bt} {w : World} (h : WLeft B pw ws w) (hq : numsP 8 ws = none ∨ ∃ l, numsP 8 ws = some (l, [])) (hm : SMet w B) (hB : B ≤ w.heap.size) (hs : ∀ x ∈ ws, x.length ≤ 5000) (hl : ws.length ≤ 100000) :
    Calls Tryz.prog 66 #[.pointer (some ⟨pw, 0, none⟩)] w fun e w' => e = .panicked broke ∧ OnlyW B pw w w' := by
  refine (rule_read B pw ws w h hm hB hs hl).mono fun e w' q => ?_
  obtain ⟨h1, ⟨l', x', t', h2, h3, h4⟩ | ⟨_, h3⟩⟩ := q
  · rcases hq with hq | ⟨l'', hq⟩ <;> (rw [hq] at h2; simp at h2)
  · exact ⟨h3, h1⟩
set_option maxHeartbeats 8000000 in
theorem ln_ruleN (B X pw : Nat) (c : Cn) (t : List Bt) (w : World) (hD : DOwn B X c w) (hc : c.ss = []) (hW : WLeft B pw (wRule :: t) w) (hX : B ≤ X) (hB : B ≤ w.heap.size) (hl : t.length ≤ 100000) :
    Calls Tryz.prog 28 #[.pointer (some ⟨X, 0, none⟩), .pointer (some ⟨pw, 0, none⟩)] w fun e w' => LG B X pw w w' ∧ (∃ vs vz vl, XAt X vs vz vl w') ∧ e = .panicked broke := by
  obtain ⟨vs, vz, vl, ps, pz, hx, hd⟩ := hD
  have hxp := x_ne_pw hx hW
  have C1 : Hid (Calls Tryz.prog 65 #[.pointer (some ⟨pw, 0, none⟩)] w fun e w' => e = .returned (.string ⟨#[114, 117, 108, 101]⟩) ∧ WLeft B pw t w' ∧ OnlyW B pw w w') := Lib.hid (text_some B pw wRule t w hW (by omega))
  have hps : ps.length = 0 := by have := congrArg List.length hd.setsC; simpa [hc] using this
  obtain ⟨A, cap, hv, _⟩ := ow_form hd.sets.row
  rw [hps] at hv
  subst hv
  have HX0 := Lib.hid hx
  clear hW hx hd hc hps
  go_enter Tryz.func28, Tryz.ntmps28
  go_upto_region 5 with (go_at_call 65; (with_reducible refine C1.out.mono ?_); rintro e w1 ⟨rfl, hl1, ho1⟩)
  have HX1 : Hid (XAt X (.slice A 0 cap) vz vl w1) := Lib.hid (HX0.out.only ho1 hxp)
  have d0 : w1.cell? ⟨X, 0, none⟩ = some (.slice A 0 cap) := cell_of HX1.out rfl
  go_wp2_with fail
  exact ⟨rfl, LG.of_only ho1, ⟨_, _, _, HX1.out⟩, rfl⟩
set_option maxHeartbeats 8000000 in
theorem ln_rule (B X pw n : Nat) (c : Cn) (t t2 : List Bt) (l : List Int) (x : Bt) (w : World) (hD : DOwn B X c w) (hz : CnZ n c) (hn : n ≤ 5000) (hc : c.ss ≠ []) (hW : WLeft B pw (wRule :: t) w) (hq : numsP 8 t = some (l, x :: t2)) (hm : SMet w B) (hX : B ≤ X) (hB : B ≤ w.heap.size) (hs : ∀ x ∈ t, x.length ≤ 5000) (hl : t.length ≤ 100000) :
    Calls Tryz.prog 28 #[.pointer (some ⟨X, 0, none⟩), .pointer (some ⟨pw, 0, none⟩)] w fun e w' => LG B X pw w w' ∧ (∃ vs vz vl, XAt X vs vz vl w') ∧ LnR t2 e (DOwn B X { c with ss := ontoLast c.ss (l, wLet x) } w') := by
  obtain ⟨vs, vz, vl, ps, pz, hx, hd⟩ := hD
  have hxp := x_ne_pw hx hW
  have C1 : Hid (Calls Tryz.prog 65 #[.pointer (some ⟨pw, 0, none⟩)] w fun e w' => e = .returned (.string ⟨#[114, 117, 108, 101]⟩) ∧ WLeft B pw t w' ∧ OnlyW B pw w w') := Lib.hid (text_some B pw wRule t w hW (by omega))
  obtain ⟨p0, p, S, sr, rfl, hcs, hm0, hm1, hpl⟩ := last_piece hd.setsC hc
  obtain ⟨sa, srs⟩ := sr
  obtain ⟨A, cap, hv, hf⟩ := ow_form hd.sets.row
  obtain ⟨g, rfl, hBg, _⟩ := hf (by simp)
  have hl1' : (p0 ++ [p]).length = p0.length + 1 := by simp
  rw [hl1'] at hv
  subst hv
  have hN5 : p0.length ≤ 5000 := by have h1 := hz.ss; rw [hcs, List.length_append] at h1; simp at h1; omega
  have hpn : p.n ≤ 5000 := by
    have h1 := (hz.sets (sa, srs) (by rw [hcs]; simp)).2.1
    unfold pcT stT at hm1
    simp only [Prod.mk.injEq] at hm1
    have h2 : p.n = srs.length := hm1.2.1
    have h3 : srs.length ≤ n := h1
    omega
  have HW := Lib.hid hW
  have HX0 := Lib.hid hx
  have HD := Lib.hid hd
  have HM := Lib.hid hm
  have HCS := Lib.hid hcs
  have HM0 := Lib.hid hm0
  have HM1 := Lib.hid hm1
  obtain ⟨N, hN⟩ : ∃ N, N = p0.length := ⟨_, rfl⟩
  have HN := Lib.hid hN
  have hg0 : HasT 48 g w := ow_type hd.sets.row rfl
  have k1 : w.cell? ⟨g, N * 2 + 1, none⟩ = some p.v := by
    have := hd.sets.row
    rw [hl1'] at this
    exact ow_cell this (by rw [hN, show rcs (p0 ++ [p]) = (p0 ++ [p]).flatMap pcCells2 from rfl, flat_get pcCells2_len (p0 ++ [p]) p0.length p 1 (by simp) (by decide)]; rfl)
  obtain ⟨L, hL⟩ : ∃ L, L = p0.length + 1 := ⟨_, rfl⟩
  have HLL := Lib.hid hL
  rw [← hL] at HX0 HD
  have hLN : L = N + 1 := by omega
  have hLz : (L == 0) = false := by rw [hLN]; simp
  have hLz2 : ((L : Int) == 0) = false := by rw [hLN]; exact beq_eq_false_iff_ne.2 (by omega)
  rw [← hN] at hN5
  have hi0 : (0 : Int) ≤ (N : Int) := Int.natCast_nonneg _
  have hi1 : (N : Int) < (L : Int) := by omega
  have hi2 : IntKind.i64.wrap ((L : Int) - 1) = (N : Int) := by rw [IntKind.wrap_i64]; omega

  have HG0 := Lib.hid hg0
  have HK1 := Lib.hid k1
  obtain ⟨a1, a2, a3, a4, a5, a6, a7, a8, rfl⟩ := list8 (numsP_len hq)
  obtain ⟨b, hb⟩ : ∃ b, b = Bs (wLet x) := ⟨_, rfl⟩
  have hcells : rlCells (rlOf ([a1, a2, a3, a4, a5, a6, a7, a8], wLet x)) = [.int .i64 a1, .int .i64 a2, .int .i64 a3, .int .i64 a4, .int .i64 a5, .int .i64 a6, .int .i64 a7, .int .i64 a8, .string b] := by rw [hb]; rfl
  have hval : rlV [a1, a2, a3, a4, a5, a6, a7, a8] x = .agg #[.int .i64 a1, .int .i64 a2, .int .i64 a3, .int .i64 a4, .int .i64 a5, .int .i64 a6, .int .i64 a7, .int .i64 a8, .string b] := by rw [hb]; rfl
  have C2 : Hid (∀ W, Below B w W → WLeft B pw t W → B ≤ W.heap.size → Calls Tryz.prog 66 #[.pointer (some ⟨pw, 0, none⟩)] W fun e w' => e = .returned (.agg #[.int .i64 a1, .int .i64 a2, .int .i64 a3, .int .i64 a4, .int .i64 a5, .int .i64 a6, .int .i64 a7, .int .i64 a8, .string b]) ∧ WLeft B pw t2 w' ∧ OnlyW B pw W w') := Lib.hid fun W hW' h hBW => by
    rw [← hval]
    exact rule_yes h hq (hm.below hW' (Nat.le_refl _)) hBW hs hl
  obtain ⟨i0, hi, hz0, hz1, hz2⟩ := info_parts infoRuleP
  have HI := Lib.hid hi
  have HZ0 := Lib.hid hz0
  have HZ1 := Lib.hid hz1
  have HZ2 := Lib.hid hz2
  obtain ⟨m, hmm⟩ : ∃ m, m = t2.length := ⟨_, rfl⟩
  have HMM := Lib.hid hmm
  have hpe : w.ownsRow B 53 9 p.v p.n p.xs := hd.sets.edge p0.length p (by simp)
  obtain ⟨Ap, capp, hpv, _⟩ := ow_form hpe
  have HPV := Lib.hid hpv
  obtain ⟨pv, hpv2⟩ : ∃ pv, pv = p.v := ⟨_, rfl⟩
  have HPW := Lib.hid hpv2
  rw [← hpv2] at HK1
  obtain ⟨M, hM⟩ : ∃ M, M = p.n := ⟨_, rfl⟩
  have HMN := Lib.hid hM
  rw [← hM] at hpn
  have HCE := Lib.hid hcells
  have HLN := Lib.hid hLN
  clear hLN hL hd hz hW hx hm hcs hm0 hm1 hN hg0 k1 hi hz0 hz1 hz2 hmm hpe hpv hpv2 hM hb hcells hval hq hc hpl hf hs hl1'
  go_enter Tryz.func28, Tryz.ntmps28
  go_upto_region 5 with (go_at_call 65; (with_reducible refine C1.out.mono ?_); rintro e w1 ⟨rfl, hl1, ho1⟩)
  have HX1 : Hid (XAt X (.slice (some ⟨g, 0, none⟩) L cap) vz vl w1) := Lib.hid (HX0.out.only ho1 hxp)
  have HD1 : Hid (DHold B (.slice (some ⟨g, 0, none⟩) L cap) vz vl (p0 ++ [p]) pz c w1) := Lib.hid (HD.out.keep (keepD_only HW.out ho1))
  have hB1 : B ≤ w1.heap.size := Nat.le_trans hB ho1.grown.size
  have HO1 := Lib.hid ho1
  have HL1 := Lib.hid hl1
  clear hl1 ho1
  have d0 : w1.cell? ⟨X, 0, none⟩ = some (.slice (some ⟨g, 0, none⟩) L cap) := cell_of HX1.out rfl
  go_upto_region 7 with fail
  have d1 : w1.drew.cell? ⟨X, 0, none⟩ = some (.slice (some ⟨g, 0, none⟩) L cap) := d0
  go_region_held3 (fun w' => w'.cell? ⟨X, 0, none⟩ = some (.slice (some ⟨g, 0, none⟩) L cap)) (first | with_reducible exact d1 | with_reducible assumption) (first | fail)
  obtain ⟨V, hV⟩ : ∃ V, V = w1.drew := ⟨_, rfl⟩
  have HXV : Hid (XAt X (.slice (some ⟨g, 0, none⟩) L cap) vz vl V) := Lib.hid (by rw [hV]; exact HX1.out)
  have HDV : Hid (DHold B (.slice (some ⟨g, 0, none⟩) L cap) vz vl (p0 ++ [p]) pz c V) := Lib.hid (by rw [hV]; exact HD1.out.keep (keepD_below (Below.refl _ _).drew))
  have HLV : Hid (WLeft B pw t V) := Lib.hid (by rw [hV]; exact HL1.out.kept (Below.refl _ _).drew)
  have HGV : Hid (LG B X pw w V) := Lib.hid (by rw [hV]; exact (LG.of_only HO1.out).trans (LG.of_below hB1 (Below.refl _ _).drew))
  have HBV : Hid (Below B w V) := Lib.hid HGV.out.below
  have hBV : B ≤ V.heap.size := by rw [hV]; exact hB1
  rw [← hV]
  clear hV d0 d1
  have hBVd : B ≤ V.drew.heap.size := hBV
  have HLVd : Hid (WLeft B pw t V.drew) := Lib.hid (HLV.out.kept (Below.refl _ _).drew)
  have HBVd : Hid (Below B w V.drew) := Lib.hid (HBV.out.trans (Below.refl _ _).drew)
  go_upto_region 8 with fail
  have k0 : V.drew.cell? ⟨g, N * 2 + 1, none⟩ = some pv := (dh_row2 (w := V.drew) HDV.out.sets.row HLL.out HN.out HPW.out).1
  go_region_law (first
    | (refine step_append_lies _ rfl _ _ 46 rfl B 53 i0 (.agg #[.int .i64 0, .int .i64 0, .int .i64 0, .int .i64 0, .int .i64 0, .int .i64 0, .int .i64 0, .int .i64 0, .string ⟨#[]⟩]) 9 80 Tryz.underlying46 HI.out HZ0.out HZ1.out HZ2.out rfl (by decide) pv M p.xs rfl HR2.out ⟨w2.heap.size, 0, none⟩ 1 1 [.int .i64 a1, .int .i64 a2, .int .i64 a3, .int .i64 a4, .int .i64 a5, .int .i64 a6, .int .i64 a7, .int .i64 a8, .string b] rfl rfl laid_at (by intro u hu; simp at hu; rcases hu with rfl | rfl | rfl | rfl | rfl | rfl | rfl | rfl | rfl <;> rfl) (by decide) (by unfold maxLen; omega) (by omega) (by simp; omega) _ rfl ?_; intro g2 cap2 w3 hown hg2 hat hlt; obtain ⟨e3, f3⟩ := dh_row2 (ow_keepT HRA.out (keepT_own HR2.out hg2 (by decide))) HLL.out HN.out HPW.out; have HF := Lib.hid (HDN.out g2 cap2 w3 hown hg2 hat); obtain ⟨ad, hlen⟩ := HF.out.2.2.1.len; rw [← HMM.out] at hlen)
    | (go_simp; go_at_call 66; (with_reducible refine (C2.out _ HBVd.out HLVd.out hBVd).mono ?_); rintro e w2 ⟨rfl, hl2, ho2⟩; have hx2 : XAt X (.slice (some ⟨g, 0, none⟩) L cap) vz vl w2 := XAt.only (w := V.drew) HXV.out ho2 hxp; have hb2 : B ≤ w2.heap.size := Nat.le_trans hBV ho2.grown.size; have HD2 : Hid (DHold B (.slice (some ⟨g, 0, none⟩) L cap) vz vl (p0 ++ [p]) pz c w2) := Lib.hid ((HDV.out.keep (keepD_below (Below.refl _ _).drew)).keep (keepD_only (HLV.out.kept (Below.refl _ _).drew) ho2)); have HDA : Hid (DHold B (.slice (some ⟨g, 0, none⟩) L cap) vz vl (p0 ++ [p]) pz c (w2.alloc (.cells #[.int .i64 a1, .int .i64 a2, .int .i64 a3, .int .i64 a4, .int .i64 a5, .int .i64 a6, .int .i64 a7, .int .i64 a8, .string b] 53))) := Lib.hid (HD2.out.keep (keepD_below ((Below.refl _ _).alloc (Nat.le_refl _) _))); have HRA := Lib.hid HDA.out.sets.row; have e0 : w2.cell? ⟨g, N * 2 + 1, none⟩ = some pv := (dh_row2 HD2.out.sets.row HLL.out HN.out HPW.out).1; have e1 : (w2.alloc (.cells #[.int .i64 a1, .int .i64 a2, .int .i64 a3, .int .i64 a4, .int .i64 a5, .int .i64 a6, .int .i64 a7, .int .i64 a8, .string b] 53)).cell? ⟨g, N * 2 + 1, none⟩ = some pv := (dh_row2 HDA.out.sets.row HLL.out HN.out HPW.out).1; have HR2 : Hid ((w2.alloc (.cells #[.int .i64 a1, .int .i64 a2, .int .i64 a3, .int .i64 a4, .int .i64 a5, .int .i64 a6, .int .i64 a7, .int .i64 a8, .string b] 53)).ownsRow B 53 9 pv M p.xs) := Lib.hid (dh_last HDA.out.sets HPW.out HMN.out); have HDN : Hid (∀ g2 cap2 w3, w3.ownsRow B 53 9 (.slice (some ⟨g2, 0, none⟩) (M + 1) cap2) (M + 1) (p.xs ++ [.int .i64 a1, .int .i64 a2, .int .i64 a3, .int .i64 a4, .int .i64 a5, .int .i64 a6, .int .i64 a7, .int .i64 a8, .string b]) → (w2.alloc (.cells #[.int .i64 a1, .int .i64 a2, .int .i64 a3, .int .i64 a4, .int .i64 a5, .int .i64 a6, .int .i64 a7, .int .i64 a8, .string b] 53)).grownBy w3 pv.ownBlock → (pv.ownBlock = some g2 ∨ g2 = (w2.alloc (.cells #[.int .i64 a1, .int .i64 a2, .int .i64 a3, .int .i64 a4, .int .i64 a5, .int .i64 a6, .int .i64 a7, .int .i64 a8, .string b] 53)).heap.size) → DOwn B X { c with ss := ontoLast c.ss ([a1, a2, a3, a4, a5, a6, a7, a8], wLet x) } (w3.setCell ⟨g, N * 2 + 1, none⟩ (.slice (some ⟨g2, 0, none⟩) (M + 1) cap2)) ∧ (∃ vs vz vl, XAt X vs vz vl (w3.setCell ⟨g, N * 2 + 1, none⟩ (.slice (some ⟨g2, 0, none⟩) (M + 1) cap2))) ∧ WLeft B pw t2 (w3.setCell ⟨g, N * 2 + 1, none⟩ (.slice (some ⟨g2, 0, none⟩) (M + 1) cap2)) ∧ LG B X pw w (w3.setCell ⟨g, N * 2 + 1, none⟩ (.slice (some ⟨g2, 0, none⟩) (M + 1) cap2))) := Lib.hid fun g2 cap2 w3 hown hg hat => rule_last HD2.out hx2 hl2 ((HGV.out.trans (LG.of_below hBV (Below.refl _ _).drew)).trans (LG.of_only ho2)) hb2 hBg HCS.out HM0.out HM1.out HLL.out HN.out HPW.out HMN.out HCE.out hown hg hat))
  all_goals (clear e0 e1 e3 f3 k0)
  all_goals (by_cases hm0 : m = 0)
  all_goals first
    | (subst hm0
       go_wp2
       go_end0
       exact ⟨HF.out.2.2.2, HF.out.2.1, fun _ => ⟨rfl, HF.out.1⟩, fun e => absurd (len_zero.1 HMM.out.symm) e⟩)
    | (have hmp : 0 < m := by omega
       go_wp2
       exact ⟨rfl, HF.out.2.2.2, HF.out.2.1, fun e => absurd (HMM.out.trans (len_zero.2 e)) hm0, fun _ => rfl⟩)
end Go.Proofs.YthhjgndaiimgjaaGreatDoor
end
/-! source.line: a line of a rule that is none. -/
section
set_option linter.unusedVariables false
set_option linter.unusedSimpArgs false
set_option maxRecDepth 100000
namespace Go.Proofs.YthhjgndaiimgjaaGreatDoor
open Go.RowKit Gno
set_option maxHeartbeats 8000000 in
theorem ln_ruleP (B X pw n : Nat) (c : Cn) (t : List Bt) (w : World) (hD : DOwn B X c w) (hz : CnZ n c) (hn : n ≤ 5000) (hc : c.ss ≠ []) (hW : WLeft B pw (wRule :: t) w) (hq : numsP 8 t = none ∨ ∃ l, numsP 8 t = some (l, [])) (hm : SMet w B) (hX : B ≤ X) (hB : B ≤ w.heap.size) (hs : ∀ x ∈ t, x.length ≤ 5000) (hl : t.length ≤ 100000) :
    Calls Tryz.prog 28 #[.pointer (some ⟨X, 0, none⟩), .pointer (some ⟨pw, 0, none⟩)] w fun e w' => LG B X pw w w' ∧ (∃ vs vz vl, XAt X vs vz vl w') ∧ e = .panicked broke := by
  obtain ⟨vs, vz, vl, ps, pz, hx, hd⟩ := hD
  have hxp := x_ne_pw hx hW
  have C1 : Hid (Calls Tryz.prog 65 #[.pointer (some ⟨pw, 0, none⟩)] w fun e w' => e = .returned (.string ⟨#[114, 117, 108, 101]⟩) ∧ WLeft B pw t w' ∧ OnlyW B pw w w') := Lib.hid (text_some B pw wRule t w hW (by omega))
  obtain ⟨p0, p, S, sr, rfl, hcs, hm0, hm1, hpl⟩ := last_piece hd.setsC hc
  obtain ⟨sa, srs⟩ := sr
  obtain ⟨A, cap, hv, hf⟩ := ow_form hd.sets.row
  obtain ⟨g, rfl, hBg, _⟩ := hf (by simp)
  have hl1' : (p0 ++ [p]).length = p0.length + 1 := by simp
  rw [hl1'] at hv
  subst hv
  have hN5 : p0.length ≤ 5000 := by have h1 := hz.ss; rw [hcs, List.length_append] at h1; simp at h1; omega
  have hpn : p.n ≤ 5000 := by
    have h1 := (hz.sets (sa, srs) (by rw [hcs]; simp)).2.1
    unfold pcT stT at hm1
    simp only [Prod.mk.injEq] at hm1
    have h2 : p.n = srs.length := hm1.2.1
    have h3 : srs.length ≤ n := h1
    omega
  have HW := Lib.hid hW
  have HX0 := Lib.hid hx
  have HD := Lib.hid hd
  have HM := Lib.hid hm
  have HCS := Lib.hid hcs
  have HM0 := Lib.hid hm0
  have HM1 := Lib.hid hm1
  obtain ⟨N, hN⟩ : ∃ N, N = p0.length := ⟨_, rfl⟩
  have HN := Lib.hid hN
  have hg0 : HasT 48 g w := ow_type hd.sets.row rfl
  have k1 : w.cell? ⟨g, N * 2 + 1, none⟩ = some p.v := by
    have := hd.sets.row
    rw [hl1'] at this
    exact ow_cell this (by rw [hN, show rcs (p0 ++ [p]) = (p0 ++ [p]).flatMap pcCells2 from rfl, flat_get pcCells2_len (p0 ++ [p]) p0.length p 1 (by simp) (by decide)]; rfl)
  obtain ⟨L, hL⟩ : ∃ L, L = p0.length + 1 := ⟨_, rfl⟩
  have HLL := Lib.hid hL
  rw [← hL] at HX0 HD
  have hLN : L = N + 1 := by omega
  have hLz : (L == 0) = false := by rw [hLN]; simp
  have hLz2 : ((L : Int) == 0) = false := by rw [hLN]; exact beq_eq_false_iff_ne.2 (by omega)
  rw [← hN] at hN5
  have hi0 : (0 : Int) ≤ (N : Int) := Int.natCast_nonneg _
  have hi1 : (N : Int) < (L : Int) := by omega
  have hi2 : IntKind.i64.wrap ((L : Int) - 1) = (N : Int) := by rw [IntKind.wrap_i64]; omega

  have HG0 := Lib.hid hg0
  have HK1 := Lib.hid k1
  have C2 : Hid (∀ W, Below B w W → WLeft B pw t W → B ≤ W.heap.size → Calls Tryz.prog 66 #[.pointer (some ⟨pw, 0, none⟩)] W fun e w' => e = .panicked broke ∧ OnlyW B pw W w') := Lib.hid fun W hW' h hBW => rule_no h hq (hm.below hW' (Nat.le_refl _)) hBW hs hl
  obtain ⟨pv, hpv2⟩ : ∃ pv, pv = p.v := ⟨_, rfl⟩
  have HPW := Lib.hid hpv2
  rw [← hpv2] at HK1
  have HLN := Lib.hid hLN
  clear hLN hL hd hz hW hx hm hcs hm0 hm1 hN hg0 k1 hpv2 hq hc hpl hf hs hl1'
  go_enter Tryz.func28, Tryz.ntmps28
  go_upto_region 5 with (go_at_call 65; (with_reducible refine C1.out.mono ?_); rintro e w1 ⟨rfl, hl1, ho1⟩)
  have HX1 : Hid (XAt X (.slice (some ⟨g, 0, none⟩) L cap) vz vl w1) := Lib.hid (HX0.out.only ho1 hxp)
  have HD1 : Hid (DHold B (.slice (some ⟨g, 0, none⟩) L cap) vz vl (p0 ++ [p]) pz c w1) := Lib.hid (HD.out.keep (keepD_only HW.out ho1))
  have hB1 : B ≤ w1.heap.size := Nat.le_trans hB ho1.grown.size
  have HO1 := Lib.hid ho1
  have HL1 := Lib.hid hl1
  clear hl1 ho1
  have d0 : w1.cell? ⟨X, 0, none⟩ = some (.slice (some ⟨g, 0, none⟩) L cap) := cell_of HX1.out rfl
  go_upto_region 7 with fail
  have d1 : w1.drew.cell? ⟨X, 0, none⟩ = some (.slice (some ⟨g, 0, none⟩) L cap) := d0
  go_region_held3 (fun w' => w'.cell? ⟨X, 0, none⟩ = some (.slice (some ⟨g, 0, none⟩) L cap)) (first | with_reducible exact d1 | with_reducible assumption) (first | fail)
  obtain ⟨V, hV⟩ : ∃ V, V = w1.drew := ⟨_, rfl⟩
  have HXV : Hid (XAt X (.slice (some ⟨g, 0, none⟩) L cap) vz vl V) := Lib.hid (by rw [hV]; exact HX1.out)
  have HDV : Hid (DHold B (.slice (some ⟨g, 0, none⟩) L cap) vz vl (p0 ++ [p]) pz c V) := Lib.hid (by rw [hV]; exact HD1.out.keep (keepD_below (Below.refl _ _).drew))
  have HLV : Hid (WLeft B pw t V) := Lib.hid (by rw [hV]; exact HL1.out.kept (Below.refl _ _).drew)
  have HGV : Hid (LG B X pw w V) := Lib.hid (by rw [hV]; exact (LG.of_only HO1.out).trans (LG.of_below hB1 (Below.refl _ _).drew))
  have HBV : Hid (Below B w V) := Lib.hid HGV.out.below
  have hBV : B ≤ V.heap.size := by rw [hV]; exact hB1
  rw [← hV]
  clear hV d0 d1
  have hBVd : B ≤ V.drew.heap.size := hBV
  have HLVd : Hid (WLeft B pw t V.drew) := Lib.hid (HLV.out.kept (Below.refl _ _).drew)
  have HBVd : Hid (Below B w V.drew) := Lib.hid (HBV.out.trans (Below.refl _ _).drew)
  have HGVd : Hid (LG B X pw w V.drew) := Lib.hid (HGV.out.trans (LG.of_below hBV (Below.refl _ _).drew))
  go_upto_region 8 with fail
  have k0 : V.drew.cell? ⟨g, N * 2 + 1, none⟩ = some pv := (dh_row2 (w := V.drew) HDV.out.sets.row HLL.out HN.out HPW.out).1
  refine wp_region_held_drew (S := (fun w' => w'.cell? ⟨g, N * 2 + 1, none⟩ = some pv ∧ True)) (by kernel_rfl) ⟨k0, trivial⟩ (fun hHeld => ?_)
  refine wpAnyH_take (i := 0) (oi := _) (v := ?_) rfl (by kernel_rfl) (by kernel_rfl) (by kernel_rfl) (fun _ _ _ h => h) (Or.inl ⟨by rfl, ?_⟩) hHeld ?_
  rotate_left
  · intro w hw; obtain ⟨k0, _⟩ := hw; go_simp <;> with_reducible rfl
  refine wpAnyH_take (i := 1) (oi := _) (v := ?_) rfl (by kernel_rfl) (by kernel_rfl) (by kernel_rfl) (fun _ _ _ h => h) (Or.inl ⟨by rfl, ?_⟩) hHeld ?_
  rotate_left
  · intro w hw; obtain ⟨k0, _⟩ := hw; go_simp <;> with_reducible rfl
  refine wpAnyH_take (i := 2) (oi := _) (v := ?_) rfl (by kernel_rfl) (by kernel_rfl) (by kernel_rfl) (fun _ _ _ h => h) (Or.inl ⟨by rfl, ?_⟩) hHeld ?_
  rotate_left
  · intro w hw; obtain ⟨k0, _⟩ := hw; go_simp <;> with_reducible rfl
  refine wpAnyH_take (i := 3) (oi := _) (v := ?_) rfl (by kernel_rfl) (by kernel_rfl) (by kernel_rfl) (fun _ _ _ h => h) (Or.inl ⟨by rfl, ?_⟩) hHeld ?_
  rotate_left
  · intro w hw; obtain ⟨k0, _⟩ := hw; go_simp <;> with_reducible rfl
  refine wpAnyH_take (i := 4) (oi := _) (v := ?_) rfl (by kernel_rfl) (by kernel_rfl) (by kernel_rfl) (fun _ _ _ h => h) (Or.inl ⟨by rfl, ?_⟩) hHeld ?_
  rotate_left
  · intro w hw; obtain ⟨k0, _⟩ := hw; go_simp <;> with_reducible rfl
  refine wpAnyH_take (i := 5) (oi := _) (v := ?_) rfl (by kernel_rfl) (by kernel_rfl) (by kernel_rfl) (fun _ _ _ h => h) (Or.inl ⟨by rfl, ?_⟩) hHeld ?_
  rotate_left
  · intro w hw; obtain ⟨k0, _⟩ := hw; go_simp <;> with_reducible rfl
  refine wpAnyH_ready (rs := [6]) (by kernel_rfl) (by simp) ?_
  refine AllReadyH.cons (o := _) rfl (fun K hK => ?_) AllReadyH.nil
  simp only [List.getElem_toArray, List.getElem_cons_zero, List.getElem_cons_succ]
  go_simp
  refine (C2.out _ HBVd.out HLVd.out hBVd).mono ?_
  rintro e w3 ⟨rfl, ho3⟩
  have HX3 : XAt X (.slice (some ⟨g, 0, none⟩) L cap) vz vl w3 := XAt.only (w := V.drew) HXV.out ho3 hxp
  exact ⟨rfl, HGVd.out.trans (LG.of_only ho3), ⟨_, _, _, HX3⟩, rfl⟩
end Go.Proofs.YthhjgndaiimgjaaGreatDoor
end
/-! source.line: a line of an era. -/
section
set_option linter.unusedVariables false
set_option linter.unusedSimpArgs false
set_option maxRecDepth 100000
namespace Gno
open Go Go.RowKit Go.Proofs.YthhjgndaiimgjaaGreatDoor
/-- an era, and what is left. -/
def eraP (t : List Bt) : Option ((List Int × Bt × Int) × List Bt) := match numP t with
  | some (v1, t1) => (match numP t1 with
    | some (v2, t2) => (match numP t2 with
      | some (v3, f :: t4) => (match numP t4 with
        | some (v4, t5) => some (([v1, v2, v3], f, v4), t5)
        | none => none)
      | _ => none)
    | none => none)
  | none => none
theorem eraP_cases (t : List Bt) : (numP t = none ∧ eraP t = none) ∨ ∃ v1 t1, numP t = some (v1, t1) ∧ ((numP t1 = none ∧ eraP t = none) ∨ ∃ v2 t2, numP t1 = some (v2, t2) ∧ ((numP t2 = none ∧ eraP t = none) ∨ ∃ v3 t3, numP t2 = some (v3, t3) ∧ ((t3 = [] ∧ eraP t = none) ∨ ∃ f t4, t3 = f :: t4 ∧ ((numP t4 = none ∧ eraP t = none) ∨ ∃ v4 t5, numP t4 = some (v4, t5) ∧ eraP t = some (([v1, v2, v3], f, v4), t5))))) := by
  cases h1 : numP t with
  | none => exact .inl ⟨rfl, by unfold eraP; rw [h1]⟩
  | some q1 =>
    obtain ⟨v1, t1⟩ := q1
    refine .inr ⟨v1, t1, rfl, ?_⟩
    cases h2 : numP t1 with
    | none => exact .inl ⟨rfl, by unfold eraP; rw [h1]; simp only [h2]⟩
    | some q2 =>
      obtain ⟨v2, t2⟩ := q2
      refine .inr ⟨v2, t2, rfl, ?_⟩
      cases h3 : numP t2 with
      | none => exact .inl ⟨rfl, by unfold eraP; rw [h1]; simp only [h2, h3]⟩
      | some q3 =>
        obtain ⟨v3, t3⟩ := q3
        refine .inr ⟨v3, t3, rfl, ?_⟩
        cases t3 with
        | nil => exact .inl ⟨rfl, by unfold eraP; rw [h1]; simp only [h2, h3]⟩
        | cons f t4 =>
          refine .inr ⟨f, t4, rfl, ?_⟩
          cases h4 : numP t4 with
          | none => exact .inl ⟨rfl, by unfold eraP; rw [h1]; simp only [h2, h3, h4]⟩
          | some q4 =>
            obtain ⟨v4, t5⟩ := q4
            exact .inr ⟨v4, t5, rfl, by unfold eraP; rw [h1]; simp only [h2, h3, h4]⟩
theorem era_done {B X pw g cap : Nat} {vs vl u : Value} {p0 ps : List Pc} {p : Pc} {c : Cn} {S : List (Bt × List (List Int × Bt × Int))} {a : Bt} {rs : List (List Int × Bt × Int)} {r : List Int × Bt × Int} {t : List Bt} {w w2 w3 : World}
    (h2 : DHold B vs (.slice (some ⟨g, 0, none⟩) (p0.length + 1) cap) vl ps (p0 ++ [p]) c w2) (hx2 : XAt X vs (.slice (some ⟨g, 0, none⟩) (p0.length + 1) cap) vl w2) (hl2 : WLeft B pw t w2) (hg0 : LG B X pw w w2) (hB2 : B ≤ w2.heap.size) (hBg : B ≤ g)
    (hc : c.zs = S ++ [(a, rs)]) (h0 : p0.map pcT = S.map znT) (h1 : pcT p = znT (a, rs))
    (hown : w3.ownsRow B 59 5 u (p.n + 1) (p.xs ++ erCells (erOf r))) (hg : w2.grownBy w3 p.v.ownBlock) (hn : NearOr w2 p.v u) :
    DOwn B X { c with zs := ontoLast c.zs r } (w3.setCell ⟨g, p0.length * 2 + 1, none⟩ u) ∧ (∃ vs vz vl, XAt X vs vz vl (w3.setCell ⟨g, p0.length * 2 + 1, none⟩ u)) ∧ WLeft B pw t (w3.setCell ⟨g, p0.length * 2 + 1, none⟩ u) ∧ LG B X pw w (w3.setCell ⟨g, p0.length * 2 + 1, none⟩ u) := by
  have hp : (p0 ++ [p])[p0.length]? = some p := by simp
  have he := h2.zones.edge _ _ hp
  have h3 := h2.addEra hc h0 h1 hown hg hn
  have hx3 := hx2.grown he (by decide) hg
  have hl3 : WLeft B pw t w3 := hl2.grown he hg (by decide) (by decide)
  have hrow := ow_keepT h2.zones.row (keepT_own he hg (by decide))
  obtain ⟨cc, hgT⟩ := ow_type hrow (g := g) rfl
  have hgX : g ≠ X := by
    rintro rfl
    unfold XAt at hx3
    rw [hgT] at hx3
    injection hx3 with hx3
    injection hx3 with _ e
    exact absurd e (by decide)
  obtain ⟨cw, hw⟩ := wl_block hl3
  have hgp : g ≠ pw := by
    rintro rfl
    rw [hgT] at hw
    injection hw with hw
    injection hw with _ e
    exact absurd e (by decide)
  have hx4 : XAt X vs (.slice (some ⟨g, 0, none⟩) (p0.length + 1) cap) vl (w3.setCell ⟨g, p0.length * 2 + 1, none⟩ u) := (Below.heap_setCell w3 ⟨g, _, none⟩ u X (fun e => hgX e.symm)).trans hx3
  refine ⟨⟨_, _, _, _, _, hx4, h3⟩, ⟨_, _, _, hx4⟩, hl3.set hgT (by decide) hgp _, ?_⟩
  exact (hg0.trans (LG.of_own hB2 he (by decide) hg)).setRow hgT (by decide) hBg _ _
theorem era_last {B X pw g cap L N M : Nat} {vs vl pv : Value} {p0 ps : List Pc} {p : Pc} {c : Cn} {S : List (Bt × List (List Int × Bt × Int))} {a : Bt} {rs : List (List Int × Bt × Int)} {r : List Int × Bt × Int} {t : List Bt} {cs : List Value} {w w2 w3 : World}
    (h2 : DHold B vs (.slice (some ⟨g, 0, none⟩) L cap) vl ps (p0 ++ [p]) c w2) (hx2 : XAt X vs (.slice (some ⟨g, 0, none⟩) L cap) vl w2) (hl2 : WLeft B pw t w2) (hg0 : LG B X pw w w2) (hB2 : B ≤ w2.heap.size) (hBg : B ≤ g)
    (hc : c.zs = S ++ [(a, rs)]) (h0 : p0.map pcT = S.map znT) (h1 : pcT p = znT (a, rs)) (hL : L = p0.length + 1) (hN : N = p0.length) (hpv : pv = p.v) (hM : M = p.n) (hcs : erCells (erOf r) = cs) {g2 cap2 : Nat}
    (hown : w3.ownsRow B 59 5 (.slice (some ⟨g2, 0, none⟩) (M + 1) cap2) (M + 1) (p.xs ++ cs)) (hg : w2.grownBy w3 pv.ownBlock) (hn : pv.ownBlock = some g2 ∨ g2 = w2.heap.size) :
    DOwn B X { c with zs := ontoLast c.zs r } (w3.setCell ⟨g, N * 2 + 1, none⟩ (.slice (some ⟨g2, 0, none⟩) (M + 1) cap2)) ∧ (∃ vs vz vl, XAt X vs vz vl (w3.setCell ⟨g, N * 2 + 1, none⟩ (.slice (some ⟨g2, 0, none⟩) (M + 1) cap2))) ∧ WLeft B pw t (w3.setCell ⟨g, N * 2 + 1, none⟩ (.slice (some ⟨g2, 0, none⟩) (M + 1) cap2)) ∧ LG B X pw w (w3.setCell ⟨g, N * 2 + 1, none⟩ (.slice (some ⟨g2, 0, none⟩) (M + 1) cap2)) := by
  subst hL hN hpv hM hcs
  exact era_done h2 hx2 hl2 hg0 hB2 hBg hc h0 h1 hown hg (near_of hn)
end Gno
namespace Go.Proofs.YthhjgndaiimgjaaGreatDoor
open Go.RowKit Gno
set_option maxHeartbeats 8000000 in
theorem ln_eraN (B X pw : Nat) (c : Cn) (t : List Bt) (w : World) (hD : DOwn B X c w) (hc : c.zs = []) (hW : WLeft B pw (wEra :: t) w) (hX : B ≤ X) (hB : B ≤ w.heap.size) (hl : t.length ≤ 100000) :
    Calls Tryz.prog 28 #[.pointer (some ⟨X, 0, none⟩), .pointer (some ⟨pw, 0, none⟩)] w fun e w' => LG B X pw w w' ∧ (∃ vs vz vl, XAt X vs vz vl w') ∧ e = .panicked broke := by
  obtain ⟨vs, vz, vl, ps, pz, hx, hd⟩ := hD
  have hxp := x_ne_pw hx hW
  have C1 : Hid (Calls Tryz.prog 65 #[.pointer (some ⟨pw, 0, none⟩)] w fun e w' => e = .returned (.string ⟨#[101, 114, 97]⟩) ∧ WLeft B pw t w' ∧ OnlyW B pw w w') := Lib.hid (text_some B pw wEra t w hW (by omega))
  have hps : pz.length = 0 := by have := congrArg List.length hd.zonesC; simpa [hc] using this
  obtain ⟨A, cap, hv, _⟩ := ow_form hd.zones.row
  rw [hps] at hv
  subst hv
  have HX0 := Lib.hid hx
  clear hW hx hd hc hps
  go_enter Tryz.func28, Tryz.ntmps28
  go_upto_region 12 with (go_at_call 65; (with_reducible refine C1.out.mono ?_); rintro e w1 ⟨rfl, hl1, ho1⟩)
  have HX1 : Hid (XAt X vs (.slice A 0 cap) vl w1) := Lib.hid (HX0.out.only ho1 hxp)
  have d0 : w1.cell? ⟨X, 1, none⟩ = some (.slice A 0 cap) := cell_of HX1.out rfl
  go_wp2_with fail
  exact ⟨rfl, LG.of_only ho1, ⟨_, _, _, HX1.out⟩, rfl⟩
set_option maxHeartbeats 8000000 in
theorem ln_era (B X pw n : Nat) (c : Cn) (t t1 t2 t4 t5 : List Bt) (v1 v2 v3 v4 : Int) (f : Bt) (w : World) (hD : DOwn B X c w) (hz : CnZ n c) (hn : n ≤ 5000) (hc : c.zs ≠ []) (hW : WLeft B pw (wEra :: t) w) (q0 : numP t = some (v1, t1)) (q1 : numP t1 = some (v2, t2)) (q2 : numP t2 = some (v3, (f :: t4))) (q4 : numP t4 = some (v4, t5)) (hm : SMet w B) (hX : B ≤ X) (hB : B ≤ w.heap.size) (hs : ∀ x ∈ t, x.length ≤ 5000) (hl : t.length ≤ 100000) :
    Calls Tryz.prog 28 #[.pointer (some ⟨X, 0, none⟩), .pointer (some ⟨pw, 0, none⟩)] w fun e w' => LG B X pw w w' ∧ (∃ vs vz vl, XAt X vs vz vl w') ∧ LnR t5 e (DOwn B X { c with zs := ontoLast c.zs ([v1, v2, v3], f, v4) } w') := by
  obtain ⟨vs, vz, vl, ps, pz, hx, hd⟩ := hD
  have hxp := x_ne_pw hx hW
  have C1 : Hid (Calls Tryz.prog 65 #[.pointer (some ⟨pw, 0, none⟩)] w fun e w' => e = .returned (.string ⟨#[101, 114, 97]⟩) ∧ WLeft B pw t w' ∧ OnlyW B pw w w') := Lib.hid (text_some B pw wEra t w hW (by omega))
  obtain ⟨p0, p, S, sr, rfl, hcs, hm0, hm1, hpl⟩ := last_piece hd.zonesC hc
  obtain ⟨sa, srs⟩ := sr
  obtain ⟨A, cap, hv, hf⟩ := ow_form hd.zones.row
  obtain ⟨g, rfl, hBg, _⟩ := hf (by simp)
  have hl1' : (p0 ++ [p]).length = p0.length + 1 := by simp
  rw [hl1'] at hv
  subst hv
  have hN5 : p0.length ≤ 5000 := by have h1 := hz.zs; rw [hcs, List.length_append] at h1; simp at h1; omega
  have hpn : p.n ≤ 5000 := by
    have h1 := (hz.zones (sa, srs) (by rw [hcs]; simp)).2.1
    unfold pcT znT at hm1
    simp only [Prod.mk.injEq] at hm1
    have h2 : p.n = srs.length := hm1.2.1
    have h3 : srs.length ≤ n := h1
    omega
  have HW := Lib.hid hW
  have HX0 := Lib.hid hx
  have HD := Lib.hid hd
  have HM := Lib.hid hm
  have HCS := Lib.hid hcs
  have HM0 := Lib.hid hm0
  have HM1 := Lib.hid hm1
  obtain ⟨N, hN⟩ : ∃ N, N = p0.length := ⟨_, rfl⟩
  have HN := Lib.hid hN
  have hg0 : HasT 57 g w := ow_type hd.zones.row rfl
  have k1 : w.cell? ⟨g, N * 2 + 1, none⟩ = some p.v := by
    have := hd.zones.row
    rw [hl1'] at this
    exact ow_cell this (by rw [hN, show rcs (p0 ++ [p]) = (p0 ++ [p]).flatMap pcCells2 from rfl, flat_get pcCells2_len (p0 ++ [p]) p0.length p 1 (by simp) (by decide)]; rfl)
  obtain ⟨L, hL⟩ : ∃ L, L = p0.length + 1 := ⟨_, rfl⟩
  have HLL := Lib.hid hL
  rw [← hL] at HX0 HD
  have hLN : L = N + 1 := by omega
  have hLz : (L == 0) = false := by rw [hLN]; simp
  have hLz2 : ((L : Int) == 0) = false := by rw [hLN]; exact beq_eq_false_iff_ne.2 (by omega)
  rw [← hN] at hN5
  have hi0 : (0 : Int) ≤ (N : Int) := Int.natCast_nonneg _
  have hi1 : (N : Int) < (L : Int) := by omega
  have hi2 : IntKind.i64.wrap ((L : Int) - 1) = (N : Int) := by rw [IntKind.wrap_i64]; omega

  have HG0 := Lib.hid hg0
  have HK1 := Lib.hid k1
  have S0 : (∀ x ∈ t, x.length ≤ 5000) ∧ t.length ≤ 100000 := ⟨hs, hl⟩
  have S1 := numP_sub q0 S0.1 S0.2
  have S2 := numP_sub q1 S1.1 S1.2
  have S3 := numP_sub q2 S2.1 S2.2
  have S4 : (∀ x ∈ t4, x.length ≤ 5000) ∧ t4.length ≤ 100000 := ⟨fun x hx => S3.1 x (List.mem_cons_of_mem _ hx), by have := S3.2; simp at this; omega⟩
  obtain ⟨b, hbf⟩ : ∃ b, b = Bs f := ⟨_, rfl⟩
  have E0 : Hid (∀ W, Below B w W → WLeft B pw t W → B ≤ W.heap.size → Calls Tryz.prog 67 #[.pointer (some ⟨pw, 0, none⟩)] W fun e w' => e = .returned (.int .i64 v1) ∧ WLeft B pw t1 w' ∧ OnlyW B pw W w') := Lib.hid fun W hW' h hBW => num_yes B pw t t1 v1 W h q0 (hm.below hW' (Nat.le_refl _)) hBW S0.1 S0.2
  have E1 : Hid (∀ W, Below B w W → WLeft B pw t1 W → B ≤ W.heap.size → Calls Tryz.prog 67 #[.pointer (some ⟨pw, 0, none⟩)] W fun e w' => e = .returned (.int .i64 v2) ∧ WLeft B pw t2 w' ∧ OnlyW B pw W w') := Lib.hid fun W hW' h hBW => num_yes B pw t1 t2 v2 W h q1 (hm.below hW' (Nat.le_refl _)) hBW S1.1 S1.2
  have E2 : Hid (∀ W, Below B w W → WLeft B pw t2 W → B ≤ W.heap.size → Calls Tryz.prog 67 #[.pointer (some ⟨pw, 0, none⟩)] W fun e w' => e = .returned (.int .i64 v3) ∧ WLeft B pw (f :: t4) w' ∧ OnlyW B pw W w') := Lib.hid fun W hW' h hBW => num_yes B pw t2 (f :: t4) v3 W h q2 (hm.below hW' (Nat.le_refl _)) hBW S2.1 S2.2
  have E3 : Hid (∀ W, WLeft B pw (f :: t4) W → Calls Tryz.prog 65 #[.pointer (some ⟨pw, 0, none⟩)] W fun e w' => e = .returned (.string b) ∧ WLeft B pw t4 w' ∧ OnlyW B pw W w') := Lib.hid fun W h => by rw [hbf]; exact text_some B pw f t4 W h (by have := S4.2; omega)
  have E4 : Hid (∀ W, Below B w W → WLeft B pw t4 W → B ≤ W.heap.size → Calls Tryz.prog 67 #[.pointer (some ⟨pw, 0, none⟩)] W fun e w' => e = .returned (.int .i64 v4) ∧ WLeft B pw t5 w' ∧ OnlyW B pw W w') := Lib.hid fun W hW' h hBW => num_yes B pw t4 t5 v4 W h q4 (hm.below hW' (Nat.le_refl _)) hBW S4.1 S4.2
  have hcells : erCells (erOf ([v1, v2, v3], f, v4)) = [.int .i64 v1, .int .i64 v2, .int .i64 v3, .string b, .int .i64 v4] := by rw [hbf]; rfl
  have HCE := Lib.hid hcells
  obtain ⟨i0, hi, hz0, hz1, hz2⟩ := info_parts infoEraP
  have HI := Lib.hid hi
  have HZ0 := Lib.hid hz0
  have HZ1 := Lib.hid hz1
  have HZ2 := Lib.hid hz2
  obtain ⟨m, hmm⟩ : ∃ m, m = t5.length := ⟨_, rfl⟩
  have HMM := Lib.hid hmm
  obtain ⟨pv, hpv2⟩ : ∃ pv, pv = p.v := ⟨_, rfl⟩
  have HPW := Lib.hid hpv2
  rw [← hpv2] at HK1
  obtain ⟨M, hM⟩ : ∃ M, M = p.n := ⟨_, rfl⟩
  have HMN := Lib.hid hM
  rw [← hM] at hpn
  have HLN := Lib.hid hLN
  clear hLN hL hd hz hW hx hm hcs hm0 hm1 hN hg0 k1 hc hpl hf hs hl1' q0 q1 q2 q4 S0 S1 S2 S3 S4 hbf hcells hi hz0 hz1 hz2 hmm hpv2 hM
  go_enter Tryz.func28, Tryz.ntmps28
  go_upto_region 12 with (go_at_call 65; (with_reducible refine C1.out.mono ?_); rintro e w1 ⟨rfl, hl1, ho1⟩)
  have hb1 : Below B w w1 := ho1.below
  have hB1 : B ≤ w1.heap.size := Nat.le_trans hB ho1.grown.size
  have d0 : w1.cell? ⟨X, 1, none⟩ = some (.slice (some ⟨g, 0, none⟩) L cap) := cell_of (XAt.only HX0.out ho1 hxp) rfl
  go_upto_region 15 with (first | (go_at_call 67; (with_reducible refine (E0.out _ hb1 hl1 hB1).mono ?_); rintro e w2 ⟨rfl, hl2, ho2⟩; have hb2 : Below B w w2 := hb1.trans ho2.below; have hB2 : B ≤ w2.heap.size := Nat.le_trans hB1 ho2.grown.size) | (go_at_call 67; (with_reducible refine (E1.out _ hb2 hl2 hB2).mono ?_); rintro e w3 ⟨rfl, hl3, ho3⟩; have hb3 : Below B w w3 := hb2.trans ho3.below; have hB3 : B ≤ w3.heap.size := Nat.le_trans hB2 ho3.grown.size) | (go_at_call 67; (with_reducible refine (E2.out _ hb3 hl3 hB3).mono ?_); rintro e w4 ⟨rfl, hl4, ho4⟩; have hb4 : Below B w w4 := hb3.trans ho4.below; have hB4 : B ≤ w4.heap.size := Nat.le_trans hB3 ho4.grown.size) | (go_at_call 65; (with_reducible refine (E3.out _ hl4).mono ?_); rintro e w5 ⟨rfl, hl5, ho5⟩; have hb5 : Below B w w5 := hb4.trans ho5.below; have hB5 : B ≤ w5.heap.size := Nat.le_trans hB4 ho5.grown.size) | (go_at_call 67; (with_reducible refine (E4.out _ hb5 hl5 hB5).mono ?_); rintro e w6 ⟨rfl, hl6, ho6⟩; have hb6 : Below B w w6 := hb5.trans ho6.below; have hB6 : B ≤ w6.heap.size := Nat.le_trans hB5 ho6.grown.size))
  obtain ⟨U, hU⟩ : ∃ U, U = w6.alloc (.cells #[.int .i64 v1, .int .i64 v2, .int .i64 v3, .string b, .int .i64 v4] 59) := ⟨_, rfl⟩
  obtain ⟨E, hE⟩ : ∃ E, E = w6.heap.size := ⟨_, rfl⟩
  have hbU : Below w6.heap.size w6 U := by rw [hU]; exact (Below.refl _ _).alloc (Nat.le_refl _) _
  have hUE : U.heap[E]? = some (.cells #[.int .i64 v1, .int .i64 v2, .int .i64 v3, .string b, .int .i64 v4] 59) := by rw [hU, hE]; exact World.alloc_heap_new w6 _
  have HXU : Hid (XAt X vs (.slice (some ⟨g, 0, none⟩) L cap) vl U) := Lib.hid ((XAt.only (XAt.only (XAt.only (XAt.only (XAt.only (XAt.only HX0.out ho1 hxp) ho2 hxp) ho3 hxp) ho4 hxp) ho5 hxp) ho6 hxp).below hbU)
  have HDU : Hid (DHold B vs (.slice (some ⟨g, 0, none⟩) L cap) vl ps (p0 ++ [p]) c U) := Lib.hid (((((((HD.out.keep (keepD_only HW.out ho1)).keep (keepD_only hl1 ho2)).keep (keepD_only hl2 ho3)).keep (keepD_only hl3 ho4)).keep (keepD_only hl4 ho5)).keep (keepD_only hl5 ho6)).keep (keepD_below hbU))
  have HLU : Hid (WLeft B pw t5 U) := Lib.hid (hl6.kept hbU)
  have HGU : Hid (LG B X pw w U) := Lib.hid (((((((LG.of_only ho1).trans (LG.of_only ho2)).trans (LG.of_only ho3)).trans (LG.of_only ho4)).trans (LG.of_only ho5)).trans (LG.of_only ho6)).trans (LG.of_below hB6 hbU))
  have hBU : B ≤ U.heap.size := Nat.le_trans hB6 hbU.size
  rw [← hU]
  clear hU d0
  try rw [← hE]
  clear hE hbU hl1 ho1 hl2 ho2 hl3 ho3 hl4 ho4 hl5 ho5 hl6 ho6
  have d1 : U.drew.cell? ⟨X, 1, none⟩ = some (.slice (some ⟨g, 0, none⟩) L cap) := cell_of (W := U.drew) HXU.out rfl
  go_region_held3 (fun w' => w'.cell? ⟨X, 1, none⟩ = some (.slice (some ⟨g, 0, none⟩) L cap)) (first | with_reducible exact d1 | with_reducible assumption) (first | fail)
  obtain ⟨V, hV⟩ : ∃ V, V = U.drew := ⟨_, rfl⟩
  have HXV : Hid (XAt X vs (.slice (some ⟨g, 0, none⟩) L cap) vl V) := Lib.hid (by rw [hV]; exact HXU.out)
  have HDV : Hid (DHold B vs (.slice (some ⟨g, 0, none⟩) L cap) vl ps (p0 ++ [p]) c V) := Lib.hid (by rw [hV]; exact HDU.out.keep (keepD_below (Below.refl _ _).drew))
  have HLV : Hid (WLeft B pw t5 V) := Lib.hid (by rw [hV]; exact HLU.out.kept (Below.refl _ _).drew)
  have HGV : Hid (LG B X pw w V) := Lib.hid (by rw [hV]; exact HGU.out.trans (LG.of_below hBU (Below.refl _ _).drew))
  have hBV : B ≤ V.heap.size := by rw [hV]; exact hBU
  have hVE : V.heap[E]? = some (.cells #[.int .i64 v1, .int .i64 v2, .int .i64 v3, .string b, .int .i64 v4] 59) := by rw [hV]; exact hUE
  rw [← hV]
  clear hV d1 hUE
  have hbA : Below V.heap.size V (V.alloc (.cells #[.int .i64 v1, .int .i64 v2, .int .i64 v3, .string b, .int .i64 v4] 59)).drew := ((Below.refl _ _).alloc (Nat.le_refl _) _).drew
  have HXA : Hid (XAt X vs (.slice (some ⟨g, 0, none⟩) L cap) vl (V.alloc (.cells #[.int .i64 v1, .int .i64 v2, .int .i64 v3, .string b, .int .i64 v4] 59)).drew) := Lib.hid (HXV.out.below hbA)
  have HDA : Hid (DHold B vs (.slice (some ⟨g, 0, none⟩) L cap) vl ps (p0 ++ [p]) c (V.alloc (.cells #[.int .i64 v1, .int .i64 v2, .int .i64 v3, .string b, .int .i64 v4] 59)).drew) := Lib.hid (HDV.out.keep (keepD_below hbA))
  have HLA : Hid (WLeft B pw t5 (V.alloc (.cells #[.int .i64 v1, .int .i64 v2, .int .i64 v3, .string b, .int .i64 v4] 59)).drew) := Lib.hid (HLV.out.kept hbA)
  have HGA : Hid (LG B X pw w (V.alloc (.cells #[.int .i64 v1, .int .i64 v2, .int .i64 v3, .string b, .int .i64 v4] 59)).drew) := Lib.hid (HGV.out.trans (LG.of_below hBV hbA))
  have hBA : B ≤ (V.alloc (.cells #[.int .i64 v1, .int .i64 v2, .int .i64 v3, .string b, .int .i64 v4] 59)).drew.heap.size := Nat.le_trans hBV hbA.size
  have HRA := Lib.hid HDA.out.zones.row
  have HR2 : Hid ((V.alloc (.cells #[.int .i64 v1, .int .i64 v2, .int .i64 v3, .string b, .int .i64 v4] 59)).drew.ownsRow B 59 5 pv M p.xs) := Lib.hid (dh_last HDA.out.zones HPW.out HMN.out)
  have HNW : Hid (∀ j u, [.int .i64 v1, .int .i64 v2, .int .i64 v3, .string b, .int .i64 v4][j]? = some u → (V.alloc (.cells #[.int .i64 v1, .int .i64 v2, .int .i64 v3, .string b, .int .i64 v4] 59)).drew.cell? ((⟨V.heap.size, 0, none⟩ : Addr).add j) = some u) := Lib.hid fun j u h => laid_at (w := V) (cs := #[.int .i64 v1, .int .i64 v2, .int .i64 v3, .string b, .int .i64 v4]) (E := 59) j u h
  have HDN : Hid (∀ g2 cap2 w3, w3.ownsRow B 59 5 (.slice (some ⟨g2, 0, none⟩) (M + 1) cap2) (M + 1) (p.xs ++ [.int .i64 v1, .int .i64 v2, .int .i64 v3, .string b, .int .i64 v4]) → (V.alloc (.cells #[.int .i64 v1, .int .i64 v2, .int .i64 v3, .string b, .int .i64 v4] 59)).drew.grownBy w3 pv.ownBlock → (pv.ownBlock = some g2 ∨ g2 = (V.alloc (.cells #[.int .i64 v1, .int .i64 v2, .int .i64 v3, .string b, .int .i64 v4] 59)).drew.heap.size) → DOwn B X { c with zs := ontoLast c.zs ([v1, v2, v3], f, v4) } (w3.setCell ⟨g, N * 2 + 1, none⟩ (.slice (some ⟨g2, 0, none⟩) (M + 1) cap2)) ∧ (∃ vs vz vl, XAt X vs vz vl (w3.setCell ⟨g, N * 2 + 1, none⟩ (.slice (some ⟨g2, 0, none⟩) (M + 1) cap2))) ∧ WLeft B pw t5 (w3.setCell ⟨g, N * 2 + 1, none⟩ (.slice (some ⟨g2, 0, none⟩) (M + 1) cap2)) ∧ LG B X pw w (w3.setCell ⟨g, N * 2 + 1, none⟩ (.slice (some ⟨g2, 0, none⟩) (M + 1) cap2))) := Lib.hid fun g2 cap2 w3 hown hg hat => era_last HDA.out HXA.out HLA.out HGA.out hBA hBg HCS.out HM0.out HM1.out HLL.out HN.out HPW.out HMN.out HCE.out hown hg hat
  go_upto_region 16 with fail
  have k0 : V.drew.cell? ⟨g, N * 2 + 1, none⟩ = some pv := (dh_row2 (w := V.drew) HDV.out.zones.row HLL.out HN.out HPW.out).1
  have k1 : (V.alloc (.cells #[.int .i64 v1, .int .i64 v2, .int .i64 v3, .string b, .int .i64 v4] 59)).drew.cell? ⟨g, N * 2 + 1, none⟩ = some pv := (dh_row2 HRA.out HLL.out HN.out HPW.out).1
  have z0 : V.drew.cell? ⟨E, 0, none⟩ = some (.int .i64 v1) := cell_of (W := V.drew) hVE rfl
  have z1 : V.drew.cell? ⟨E, 1, none⟩ = some (.int .i64 v2) := cell_of (W := V.drew) hVE rfl
  have z2 : V.drew.cell? ⟨E, 2, none⟩ = some (.int .i64 v3) := cell_of (W := V.drew) hVE rfl
  have z3 : V.drew.cell? ⟨E, 3, none⟩ = some (.string b) := cell_of (W := V.drew) hVE rfl
  have z4 : V.drew.cell? ⟨E, 4, none⟩ = some (.int .i64 v4) := cell_of (W := V.drew) hVE rfl
  clear hbA
  go_region_law (first
    | (refine step_append_lies _ rfl _ _ 55 rfl B 59 i0 (.agg #[.int .i64 0, .int .i64 0, .int .i64 0, .string ⟨#[]⟩, .int .i64 0]) 5 48 Tryz.underlying55 HI.out HZ0.out HZ1.out HZ2.out rfl (by decide) pv M p.xs rfl HR2.out ⟨V.heap.size, 0, none⟩ 1 1 [.int .i64 v1, .int .i64 v2, .int .i64 v3, .string b, .int .i64 v4] rfl rfl HNW.out (by intro u hu; simp at hu; rcases hu with rfl | rfl | rfl | rfl | rfl <;> rfl) (by decide) (by unfold maxLen; omega) (by omega) hBA _ rfl ?_; intro g2 cap2 w3 hown hg2 hat hlt; obtain ⟨e3, f3⟩ := dh_row2 (ow_keepT HRA.out (keepT_own HR2.out hg2 (by decide))) HLL.out HN.out HPW.out; have HF := Lib.hid (HDN.out g2 cap2 w3 hown hg2 hat); obtain ⟨ad, hlen⟩ := HF.out.2.2.1.len; rw [← HMM.out] at hlen))
  all_goals (clear e3 f3 k0 k1 z0 z1 z2 z3 z4)
  all_goals (by_cases hm0 : m = 0)
  all_goals first
    | (subst hm0
       go_wp2
       go_end0
       exact ⟨HF.out.2.2.2, HF.out.2.1, fun _ => ⟨rfl, HF.out.1⟩, fun e => absurd (len_zero.1 HMM.out.symm) e⟩)
    | (have hmp : 0 < m := by omega
       go_wp2
       exact ⟨rfl, HF.out.2.2.2, HF.out.2.1, fun e => absurd (HMM.out.trans (len_zero.2 e)) hm0, fun _ => rfl⟩)
end Go.Proofs.YthhjgndaiimgjaaGreatDoor
end
/-! source.line: a line of an era that is none. -/
section
set_option linter.unusedVariables false
set_option linter.unusedSimpArgs false
set_option maxRecDepth 100000
namespace Go.Proofs.YthhjgndaiimgjaaGreatDoor
open Go.RowKit Gno
set_option maxHeartbeats 8000000 in
theorem ln_eraP0 (B X pw n : Nat) (c : Cn) (t : List Bt) (w : World) (hD : DOwn B X c w) (hz : CnZ n c) (hn : n ≤ 5000) (hc : c.zs ≠ []) (hW : WLeft B pw (wEra :: t) w) (q0 : numP t = none) (hm : SMet w B) (hX : B ≤ X) (hB : B ≤ w.heap.size) (hs : ∀ x ∈ t, x.length ≤ 5000) (hl : t.length ≤ 100000) :
    Calls Tryz.prog 28 #[.pointer (some ⟨X, 0, none⟩), .pointer (some ⟨pw, 0, none⟩)] w fun e w' => LG B X pw w w' ∧ (∃ vs vz vl, XAt X vs vz vl w') ∧ e = .panicked broke := by
  obtain ⟨vs, vz, vl, ps, pz, hx, hd⟩ := hD
  have hxp := x_ne_pw hx hW
  have C1 : Hid (Calls Tryz.prog 65 #[.pointer (some ⟨pw, 0, none⟩)] w fun e w' => e = .returned (.string ⟨#[101, 114, 97]⟩) ∧ WLeft B pw t w' ∧ OnlyW B pw w w') := Lib.hid (text_some B pw wEra t w hW (by omega))
  obtain ⟨p0, p, S, sr, rfl, hcs, hm0, hm1, hpl⟩ := last_piece hd.zonesC hc
  obtain ⟨sa, srs⟩ := sr
  obtain ⟨A, cap, hv, hf⟩ := ow_form hd.zones.row
  obtain ⟨g, rfl, hBg, _⟩ := hf (by simp)
  have hl1' : (p0 ++ [p]).length = p0.length + 1 := by simp
  rw [hl1'] at hv
  subst hv
  have hN5 : p0.length ≤ 5000 := by have h1 := hz.zs; rw [hcs, List.length_append] at h1; simp at h1; omega
  have hpn : p.n ≤ 5000 := by
    have h1 := (hz.zones (sa, srs) (by rw [hcs]; simp)).2.1
    unfold pcT znT at hm1
    simp only [Prod.mk.injEq] at hm1
    have h2 : p.n = srs.length := hm1.2.1
    have h3 : srs.length ≤ n := h1
    omega
  have HW := Lib.hid hW
  have HX0 := Lib.hid hx
  have HD := Lib.hid hd
  have HM := Lib.hid hm
  have HCS := Lib.hid hcs
  have HM0 := Lib.hid hm0
  have HM1 := Lib.hid hm1
  obtain ⟨N, hN⟩ : ∃ N, N = p0.length := ⟨_, rfl⟩
  have HN := Lib.hid hN
  have hg0 : HasT 57 g w := ow_type hd.zones.row rfl
  have k1 : w.cell? ⟨g, N * 2 + 1, none⟩ = some p.v := by
    have := hd.zones.row
    rw [hl1'] at this
    exact ow_cell this (by rw [hN, show rcs (p0 ++ [p]) = (p0 ++ [p]).flatMap pcCells2 from rfl, flat_get pcCells2_len (p0 ++ [p]) p0.length p 1 (by simp) (by decide)]; rfl)
  obtain ⟨L, hL⟩ : ∃ L, L = p0.length + 1 := ⟨_, rfl⟩
  have HLL := Lib.hid hL
  rw [← hL] at HX0 HD
  have hLN : L = N + 1 := by omega
  have hLz : (L == 0) = false := by rw [hLN]; simp
  have hLz2 : ((L : Int) == 0) = false := by rw [hLN]; exact beq_eq_false_iff_ne.2 (by omega)
  rw [← hN] at hN5
  have hi0 : (0 : Int) ≤ (N : Int) := Int.natCast_nonneg _
  have hi1 : (N : Int) < (L : Int) := by omega
  have hi2 : IntKind.i64.wrap ((L : Int) - 1) = (N : Int) := by rw [IntKind.wrap_i64]; omega

  have HG0 := Lib.hid hg0
  have HK1 := Lib.hid k1
  have S0 : (∀ x ∈ t, x.length ≤ 5000) ∧ t.length ≤ 100000 := ⟨hs, hl⟩
  have E0 : Hid (∀ W, Below B w W → WLeft B pw t W → B ≤ W.heap.size → Calls Tryz.prog 67 #[.pointer (some ⟨pw, 0, none⟩)] W fun e w' => e = .panicked broke ∧ OnlyW B pw W w') := Lib.hid fun W hW' h hBW => num_no B pw t W h q0 (hm.below hW' (Nat.le_refl _)) hBW S0.1 S0.2
  have HLN := Lib.hid hLN
  clear hLN hL hd hz hW hx hm hcs hm0 hm1 hN hg0 k1 hc hpl hf hs hl1' q0 S0
  go_enter Tryz.func28, Tryz.ntmps28
  go_upto_region 12 with (go_at_call 65; (with_reducible refine C1.out.mono ?_); rintro e w1 ⟨rfl, hl1, ho1⟩)
  have hb1 : Below B w w1 := ho1.below
  have hB1 : B ≤ w1.heap.size := Nat.le_trans hB ho1.grown.size
  have d0 : w1.cell? ⟨X, 1, none⟩ = some (.slice (some ⟨g, 0, none⟩) L cap) := cell_of (XAt.only HX0.out ho1 hxp) rfl
  go_wp2_with (first | (go_at_call 67; (with_reducible refine (E0.out _ hb1 hl1 hB1).mono ?_); rintro e wF ⟨rfl, hoF⟩))
  exact ⟨rfl, (LG.of_only ho1).trans (LG.of_only hoF), ⟨_, _, _, XAt.only (XAt.only HX0.out ho1 hxp) hoF hxp⟩, rfl⟩
set_option maxHeartbeats 8000000 in
theorem ln_eraP1 (B X pw n : Nat) (c : Cn) (t t1 : List Bt) (v1 : Int) (w : World) (hD : DOwn B X c w) (hz : CnZ n c) (hn : n ≤ 5000) (hc : c.zs ≠ []) (hW : WLeft B pw (wEra :: t) w) (q0 : numP t = some (v1, t1)) (q1 : numP t1 = none) (hm : SMet w B) (hX : B ≤ X) (hB : B ≤ w.heap.size) (hs : ∀ x ∈ t, x.length ≤ 5000) (hl : t.length ≤ 100000) :
    Calls Tryz.prog 28 #[.pointer (some ⟨X, 0, none⟩), .pointer (some ⟨pw, 0, none⟩)] w fun e w' => LG B X pw w w' ∧ (∃ vs vz vl, XAt X vs vz vl w') ∧ e = .panicked broke := by
  obtain ⟨vs, vz, vl, ps, pz, hx, hd⟩ := hD
  have hxp := x_ne_pw hx hW
  have C1 : Hid (Calls Tryz.prog 65 #[.pointer (some ⟨pw, 0, none⟩)] w fun e w' => e = .returned (.string ⟨#[101, 114, 97]⟩) ∧ WLeft B pw t w' ∧ OnlyW B pw w w') := Lib.hid (text_some B pw wEra t w hW (by omega))
  obtain ⟨p0, p, S, sr, rfl, hcs, hm0, hm1, hpl⟩ := last_piece hd.zonesC hc
  obtain ⟨sa, srs⟩ := sr
  obtain ⟨A, cap, hv, hf⟩ := ow_form hd.zones.row
  obtain ⟨g, rfl, hBg, _⟩ := hf (by simp)
  have hl1' : (p0 ++ [p]).length = p0.length + 1 := by simp
  rw [hl1'] at hv
  subst hv
  have hN5 : p0.length ≤ 5000 := by have h1 := hz.zs; rw [hcs, List.length_append] at h1; simp at h1; omega
  have hpn : p.n ≤ 5000 := by
    have h1 := (hz.zones (sa, srs) (by rw [hcs]; simp)).2.1
    unfold pcT znT at hm1
    simp only [Prod.mk.injEq] at hm1
    have h2 : p.n = srs.length := hm1.2.1
    have h3 : srs.length ≤ n := h1
    omega
  have HW := Lib.hid hW
  have HX0 := Lib.hid hx
  have HD := Lib.hid hd
  have HM := Lib.hid hm
  have HCS := Lib.hid hcs
  have HM0 := Lib.hid hm0
  have HM1 := Lib.hid hm1
  obtain ⟨N, hN⟩ : ∃ N, N = p0.length := ⟨_, rfl⟩
  have HN := Lib.hid hN
  have hg0 : HasT 57 g w := ow_type hd.zones.row rfl
  have k1 : w.cell? ⟨g, N * 2 + 1, none⟩ = some p.v := by
    have := hd.zones.row
    rw [hl1'] at this
    exact ow_cell this (by rw [hN, show rcs (p0 ++ [p]) = (p0 ++ [p]).flatMap pcCells2 from rfl, flat_get pcCells2_len (p0 ++ [p]) p0.length p 1 (by simp) (by decide)]; rfl)
  obtain ⟨L, hL⟩ : ∃ L, L = p0.length + 1 := ⟨_, rfl⟩
  have HLL := Lib.hid hL
  rw [← hL] at HX0 HD
  have hLN : L = N + 1 := by omega
  have hLz : (L == 0) = false := by rw [hLN]; simp
  have hLz2 : ((L : Int) == 0) = false := by rw [hLN]; exact beq_eq_false_iff_ne.2 (by omega)
  rw [← hN] at hN5
  have hi0 : (0 : Int) ≤ (N : Int) := Int.natCast_nonneg _
  have hi1 : (N : Int) < (L : Int) := by omega
  have hi2 : IntKind.i64.wrap ((L : Int) - 1) = (N : Int) := by rw [IntKind.wrap_i64]; omega

  have HG0 := Lib.hid hg0
  have HK1 := Lib.hid k1
  have S0 : (∀ x ∈ t, x.length ≤ 5000) ∧ t.length ≤ 100000 := ⟨hs, hl⟩
  have S1 := numP_sub q0 S0.1 S0.2
  have E0 : Hid (∀ W, Below B w W → WLeft B pw t W → B ≤ W.heap.size → Calls Tryz.prog 67 #[.pointer (some ⟨pw, 0, none⟩)] W fun e w' => e = .returned (.int .i64 v1) ∧ WLeft B pw t1 w' ∧ OnlyW B pw W w') := Lib.hid fun W hW' h hBW => num_yes B pw t t1 v1 W h q0 (hm.below hW' (Nat.le_refl _)) hBW S0.1 S0.2
  have E1 : Hid (∀ W, Below B w W → WLeft B pw t1 W → B ≤ W.heap.size → Calls Tryz.prog 67 #[.pointer (some ⟨pw, 0, none⟩)] W fun e w' => e = .panicked broke ∧ OnlyW B pw W w') := Lib.hid fun W hW' h hBW => num_no B pw t1 W h q1 (hm.below hW' (Nat.le_refl _)) hBW S1.1 S1.2
  have HLN := Lib.hid hLN
  clear hLN hL hd hz hW hx hm hcs hm0 hm1 hN hg0 k1 hc hpl hf hs hl1' q0 q1 S0 S1
  go_enter Tryz.func28, Tryz.ntmps28
  go_upto_region 12 with (go_at_call 65; (with_reducible refine C1.out.mono ?_); rintro e w1 ⟨rfl, hl1, ho1⟩)
  have hb1 : Below B w w1 := ho1.below
  have hB1 : B ≤ w1.heap.size := Nat.le_trans hB ho1.grown.size
  have d0 : w1.cell? ⟨X, 1, none⟩ = some (.slice (some ⟨g, 0, none⟩) L cap) := cell_of (XAt.only HX0.out ho1 hxp) rfl
  go_wp2_with (first | (go_at_call 67; (with_reducible refine (E0.out _ hb1 hl1 hB1).mono ?_); rintro e w2 ⟨rfl, hl2, ho2⟩; have hb2 : Below B w w2 := hb1.trans ho2.below; have hB2 : B ≤ w2.heap.size := Nat.le_trans hB1 ho2.grown.size) | (go_at_call 67; (with_reducible refine (E1.out _ hb2 hl2 hB2).mono ?_); rintro e wF ⟨rfl, hoF⟩))
  exact ⟨rfl, ((LG.of_only ho1).trans (LG.of_only ho2)).trans (LG.of_only hoF), ⟨_, _, _, XAt.only (XAt.only (XAt.only HX0.out ho1 hxp) ho2 hxp) hoF hxp⟩, rfl⟩
set_option maxHeartbeats 8000000 in
theorem ln_eraP2 (B X pw n : Nat) (c : Cn) (t t1 t2 : List Bt) (v1 v2 : Int) (w : World) (hD : DOwn B X c w) (hz : CnZ n c) (hn : n ≤ 5000) (hc : c.zs ≠ []) (hW : WLeft B pw (wEra :: t) w) (q0 : numP t = some (v1, t1)) (q1 : numP t1 = some (v2, t2)) (q2 : numP t2 = none) (hm : SMet w B) (hX : B ≤ X) (hB : B ≤ w.heap.size) (hs : ∀ x ∈ t, x.length ≤ 5000) (hl : t.length ≤ 100000) :
    Calls Tryz.prog 28 #[.pointer (some ⟨X, 0, none⟩), .pointer (some ⟨pw, 0, none⟩)] w fun e w' => LG B X pw w w' ∧ (∃ vs vz vl, XAt X vs vz vl w') ∧ e = .panicked broke := by
  obtain ⟨vs, vz, vl, ps, pz, hx, hd⟩ := hD
  have hxp := x_ne_pw hx hW
  have C1 : Hid (Calls Tryz.prog 65 #[.pointer (some ⟨pw, 0, none⟩)] w fun e w' => e = .returned (.string ⟨#[101, 114, 97]⟩) ∧ WLeft B pw t w' ∧ OnlyW B pw w w') := Lib.hid (text_some B pw wEra t w hW (by omega))
  obtain ⟨p0, p, S, sr, rfl, hcs, hm0, hm1, hpl⟩ := last_piece hd.zonesC hc
  obtain ⟨sa, srs⟩ := sr
  obtain ⟨A, cap, hv, hf⟩ := ow_form hd.zones.row
  obtain ⟨g, rfl, hBg, _⟩ := hf (by simp)
  have hl1' : (p0 ++ [p]).length = p0.length + 1 := by simp
  rw [hl1'] at hv
  subst hv
  have hN5 : p0.length ≤ 5000 := by have h1 := hz.zs; rw [hcs, List.length_append] at h1; simp at h1; omega
  have hpn : p.n ≤ 5000 := by
    have h1 := (hz.zones (sa, srs) (by rw [hcs]; simp)).2.1
    unfold pcT znT at hm1
    simp only [Prod.mk.injEq] at hm1
    have h2 : p.n = srs.length := hm1.2.1
    have h3 : srs.length ≤ n := h1
    omega
  have HW := Lib.hid hW
  have HX0 := Lib.hid hx
  have HD := Lib.hid hd
  have HM := Lib.hid hm
  have HCS := Lib.hid hcs
  have HM0 := Lib.hid hm0
  have HM1 := Lib.hid hm1
  obtain ⟨N, hN⟩ : ∃ N, N = p0.length := ⟨_, rfl⟩
  have HN := Lib.hid hN
  have hg0 : HasT 57 g w := ow_type hd.zones.row rfl
  have k1 : w.cell? ⟨g, N * 2 + 1, none⟩ = some p.v := by
    have := hd.zones.row
    rw [hl1'] at this
    exact ow_cell this (by rw [hN, show rcs (p0 ++ [p]) = (p0 ++ [p]).flatMap pcCells2 from rfl, flat_get pcCells2_len (p0 ++ [p]) p0.length p 1 (by simp) (by decide)]; rfl)
  obtain ⟨L, hL⟩ : ∃ L, L = p0.length + 1 := ⟨_, rfl⟩
  have HLL := Lib.hid hL
  rw [← hL] at HX0 HD
  have hLN : L = N + 1 := by omega
  have hLz : (L == 0) = false := by rw [hLN]; simp
  have hLz2 : ((L : Int) == 0) = false := by rw [hLN]; exact beq_eq_false_iff_ne.2 (by omega)
  rw [← hN] at hN5
  have hi0 : (0 : Int) ≤ (N : Int) := Int.natCast_nonneg _
  have hi1 : (N : Int) < (L : Int) := by omega
  have hi2 : IntKind.i64.wrap ((L : Int) - 1) = (N : Int) := by rw [IntKind.wrap_i64]; omega

  have HG0 := Lib.hid hg0
  have HK1 := Lib.hid k1
  have S0 : (∀ x ∈ t, x.length ≤ 5000) ∧ t.length ≤ 100000 := ⟨hs, hl⟩
  have S1 := numP_sub q0 S0.1 S0.2
  have S2 := numP_sub q1 S1.1 S1.2
  have E0 : Hid (∀ W, Below B w W → WLeft B pw t W → B ≤ W.heap.size → Calls Tryz.prog 67 #[.pointer (some ⟨pw, 0, none⟩)] W fun e w' => e = .returned (.int .i64 v1) ∧ WLeft B pw t1 w' ∧ OnlyW B pw W w') := Lib.hid fun W hW' h hBW => num_yes B pw t t1 v1 W h q0 (hm.below hW' (Nat.le_refl _)) hBW S0.1 S0.2
  have E1 : Hid (∀ W, Below B w W → WLeft B pw t1 W → B ≤ W.heap.size → Calls Tryz.prog 67 #[.pointer (some ⟨pw, 0, none⟩)] W fun e w' => e = .returned (.int .i64 v2) ∧ WLeft B pw t2 w' ∧ OnlyW B pw W w') := Lib.hid fun W hW' h hBW => num_yes B pw t1 t2 v2 W h q1 (hm.below hW' (Nat.le_refl _)) hBW S1.1 S1.2
  have E2 : Hid (∀ W, Below B w W → WLeft B pw t2 W → B ≤ W.heap.size → Calls Tryz.prog 67 #[.pointer (some ⟨pw, 0, none⟩)] W fun e w' => e = .panicked broke ∧ OnlyW B pw W w') := Lib.hid fun W hW' h hBW => num_no B pw t2 W h q2 (hm.below hW' (Nat.le_refl _)) hBW S2.1 S2.2
  have HLN := Lib.hid hLN
  clear hLN hL hd hz hW hx hm hcs hm0 hm1 hN hg0 k1 hc hpl hf hs hl1' q0 q1 q2 S0 S1 S2
  go_enter Tryz.func28, Tryz.ntmps28
  go_upto_region 12 with (go_at_call 65; (with_reducible refine C1.out.mono ?_); rintro e w1 ⟨rfl, hl1, ho1⟩)
  have hb1 : Below B w w1 := ho1.below
  have hB1 : B ≤ w1.heap.size := Nat.le_trans hB ho1.grown.size
  have d0 : w1.cell? ⟨X, 1, none⟩ = some (.slice (some ⟨g, 0, none⟩) L cap) := cell_of (XAt.only HX0.out ho1 hxp) rfl
  go_wp2_with (first | (go_at_call 67; (with_reducible refine (E0.out _ hb1 hl1 hB1).mono ?_); rintro e w2 ⟨rfl, hl2, ho2⟩; have hb2 : Below B w w2 := hb1.trans ho2.below; have hB2 : B ≤ w2.heap.size := Nat.le_trans hB1 ho2.grown.size) | (go_at_call 67; (with_reducible refine (E1.out _ hb2 hl2 hB2).mono ?_); rintro e w3 ⟨rfl, hl3, ho3⟩; have hb3 : Below B w w3 := hb2.trans ho3.below; have hB3 : B ≤ w3.heap.size := Nat.le_trans hB2 ho3.grown.size) | (go_at_call 67; (with_reducible refine (E2.out _ hb3 hl3 hB3).mono ?_); rintro e wF ⟨rfl, hoF⟩))
  exact ⟨rfl, (((LG.of_only ho1).trans (LG.of_only ho2)).trans (LG.of_only ho3)).trans (LG.of_only hoF), ⟨_, _, _, XAt.only (XAt.only (XAt.only (XAt.only HX0.out ho1 hxp) ho2 hxp) ho3 hxp) hoF hxp⟩, rfl⟩
set_option maxHeartbeats 8000000 in
theorem ln_eraP3 (B X pw n : Nat) (c : Cn) (t t1 t2 : List Bt) (v1 v2 v3 : Int) (w : World) (hD : DOwn B X c w) (hz : CnZ n c) (hn : n ≤ 5000) (hc : c.zs ≠ []) (hW : WLeft B pw (wEra :: t) w) (q0 : numP t = some (v1, t1)) (q1 : numP t1 = some (v2, t2)) (q2 : numP t2 = some (v3, [])) (hm : SMet w B) (hX : B ≤ X) (hB : B ≤ w.heap.size) (hs : ∀ x ∈ t, x.length ≤ 5000) (hl : t.length ≤ 100000) :
    Calls Tryz.prog 28 #[.pointer (some ⟨X, 0, none⟩), .pointer (some ⟨pw, 0, none⟩)] w fun e w' => LG B X pw w w' ∧ (∃ vs vz vl, XAt X vs vz vl w') ∧ e = .panicked broke := by
  obtain ⟨vs, vz, vl, ps, pz, hx, hd⟩ := hD
  have hxp := x_ne_pw hx hW
  have C1 : Hid (Calls Tryz.prog 65 #[.pointer (some ⟨pw, 0, none⟩)] w fun e w' => e = .returned (.string ⟨#[101, 114, 97]⟩) ∧ WLeft B pw t w' ∧ OnlyW B pw w w') := Lib.hid (text_some B pw wEra t w hW (by omega))
  obtain ⟨p0, p, S, sr, rfl, hcs, hm0, hm1, hpl⟩ := last_piece hd.zonesC hc
  obtain ⟨sa, srs⟩ := sr
  obtain ⟨A, cap, hv, hf⟩ := ow_form hd.zones.row
  obtain ⟨g, rfl, hBg, _⟩ := hf (by simp)
  have hl1' : (p0 ++ [p]).length = p0.length + 1 := by simp
  rw [hl1'] at hv
  subst hv
  have hN5 : p0.length ≤ 5000 := by have h1 := hz.zs; rw [hcs, List.length_append] at h1; simp at h1; omega
  have hpn : p.n ≤ 5000 := by
    have h1 := (hz.zones (sa, srs) (by rw [hcs]; simp)).2.1
    unfold pcT znT at hm1
    simp only [Prod.mk.injEq] at hm1
    have h2 : p.n = srs.length := hm1.2.1
    have h3 : srs.length ≤ n := h1
    omega
  have HW := Lib.hid hW
  have HX0 := Lib.hid hx
  have HD := Lib.hid hd
  have HM := Lib.hid hm
  have HCS := Lib.hid hcs
  have HM0 := Lib.hid hm0
  have HM1 := Lib.hid hm1
  obtain ⟨N, hN⟩ : ∃ N, N = p0.length := ⟨_, rfl⟩
  have HN := Lib.hid hN
  have hg0 : HasT 57 g w := ow_type hd.zones.row rfl
  have k1 : w.cell? ⟨g, N * 2 + 1, none⟩ = some p.v := by
    have := hd.zones.row
    rw [hl1'] at this
    exact ow_cell this (by rw [hN, show rcs (p0 ++ [p]) = (p0 ++ [p]).flatMap pcCells2 from rfl, flat_get pcCells2_len (p0 ++ [p]) p0.length p 1 (by simp) (by decide)]; rfl)
  obtain ⟨L, hL⟩ : ∃ L, L = p0.length + 1 := ⟨_, rfl⟩
  have HLL := Lib.hid hL
  rw [← hL] at HX0 HD
  have hLN : L = N + 1 := by omega
  have hLz : (L == 0) = false := by rw [hLN]; simp
  have hLz2 : ((L : Int) == 0) = false := by rw [hLN]; exact beq_eq_false_iff_ne.2 (by omega)
  rw [← hN] at hN5
  have hi0 : (0 : Int) ≤ (N : Int) := Int.natCast_nonneg _
  have hi1 : (N : Int) < (L : Int) := by omega
  have hi2 : IntKind.i64.wrap ((L : Int) - 1) = (N : Int) := by rw [IntKind.wrap_i64]; omega

  have HG0 := Lib.hid hg0
  have HK1 := Lib.hid k1
  have S0 : (∀ x ∈ t, x.length ≤ 5000) ∧ t.length ≤ 100000 := ⟨hs, hl⟩
  have S1 := numP_sub q0 S0.1 S0.2
  have S2 := numP_sub q1 S1.1 S1.2
  have S3 := numP_sub q2 S2.1 S2.2
  have E0 : Hid (∀ W, Below B w W → WLeft B pw t W → B ≤ W.heap.size → Calls Tryz.prog 67 #[.pointer (some ⟨pw, 0, none⟩)] W fun e w' => e = .returned (.int .i64 v1) ∧ WLeft B pw t1 w' ∧ OnlyW B pw W w') := Lib.hid fun W hW' h hBW => num_yes B pw t t1 v1 W h q0 (hm.below hW' (Nat.le_refl _)) hBW S0.1 S0.2
  have E1 : Hid (∀ W, Below B w W → WLeft B pw t1 W → B ≤ W.heap.size → Calls Tryz.prog 67 #[.pointer (some ⟨pw, 0, none⟩)] W fun e w' => e = .returned (.int .i64 v2) ∧ WLeft B pw t2 w' ∧ OnlyW B pw W w') := Lib.hid fun W hW' h hBW => num_yes B pw t1 t2 v2 W h q1 (hm.below hW' (Nat.le_refl _)) hBW S1.1 S1.2
  have E2 : Hid (∀ W, Below B w W → WLeft B pw t2 W → B ≤ W.heap.size → Calls Tryz.prog 67 #[.pointer (some ⟨pw, 0, none⟩)] W fun e w' => e = .returned (.int .i64 v3) ∧ WLeft B pw [] w' ∧ OnlyW B pw W w') := Lib.hid fun W hW' h hBW => num_yes B pw t2 [] v3 W h q2 (hm.below hW' (Nat.le_refl _)) hBW S2.1 S2.2
  have E3 : Hid (∀ W, WLeft B pw [] W → Calls Tryz.prog 65 #[.pointer (some ⟨pw, 0, none⟩)] W fun e w' => e = .panicked broke ∧ W = w') := Lib.hid fun W h => text_none B pw W h
  have HLN := Lib.hid hLN
  clear hLN hL hd hz hW hx hm hcs hm0 hm1 hN hg0 k1 hc hpl hf hs hl1' q0 q1 q2 S0 S1 S2 S3
  go_enter Tryz.func28, Tryz.ntmps28
  go_upto_region 12 with (go_at_call 65; (with_reducible refine C1.out.mono ?_); rintro e w1 ⟨rfl, hl1, ho1⟩)
  have hb1 : Below B w w1 := ho1.below
  have hB1 : B ≤ w1.heap.size := Nat.le_trans hB ho1.grown.size
  have d0 : w1.cell? ⟨X, 1, none⟩ = some (.slice (some ⟨g, 0, none⟩) L cap) := cell_of (XAt.only HX0.out ho1 hxp) rfl
  go_wp2_with (first | (go_at_call 67; (with_reducible refine (E0.out _ hb1 hl1 hB1).mono ?_); rintro e w2 ⟨rfl, hl2, ho2⟩; have hb2 : Below B w w2 := hb1.trans ho2.below; have hB2 : B ≤ w2.heap.size := Nat.le_trans hB1 ho2.grown.size) | (go_at_call 67; (with_reducible refine (E1.out _ hb2 hl2 hB2).mono ?_); rintro e w3 ⟨rfl, hl3, ho3⟩; have hb3 : Below B w w3 := hb2.trans ho3.below; have hB3 : B ≤ w3.heap.size := Nat.le_trans hB2 ho3.grown.size) | (go_at_call 67; (with_reducible refine (E2.out _ hb3 hl3 hB3).mono ?_); rintro e w4 ⟨rfl, hl4, ho4⟩; have hb4 : Below B w w4 := hb3.trans ho4.below; have hB4 : B ≤ w4.heap.size := Nat.le_trans hB3 ho4.grown.size) | (go_at_call 65; (with_reducible refine (E3.out _ hl4).mono ?_); rintro e wF ⟨rfl, rfl⟩))
  exact ⟨rfl, (((LG.of_only ho1).trans (LG.of_only ho2)).trans (LG.of_only ho3)).trans (LG.of_only ho4), ⟨_, _, _, XAt.only (XAt.only (XAt.only (XAt.only HX0.out ho1 hxp) ho2 hxp) ho3 hxp) ho4 hxp⟩, rfl⟩
set_option maxHeartbeats 8000000 in
theorem ln_eraP4 (B X pw n : Nat) (c : Cn) (t t1 t2 t4 : List Bt) (v1 v2 v3 : Int) (f : Bt) (w : World) (hD : DOwn B X c w) (hz : CnZ n c) (hn : n ≤ 5000) (hc : c.zs ≠ []) (hW : WLeft B pw (wEra :: t) w) (q0 : numP t = some (v1, t1)) (q1 : numP t1 = some (v2, t2)) (q2 : numP t2 = some (v3, (f :: t4))) (q4 : numP t4 = none) (hm : SMet w B) (hX : B ≤ X) (hB : B ≤ w.heap.size) (hs : ∀ x ∈ t, x.length ≤ 5000) (hl : t.length ≤ 100000) :
    Calls Tryz.prog 28 #[.pointer (some ⟨X, 0, none⟩), .pointer (some ⟨pw, 0, none⟩)] w fun e w' => LG B X pw w w' ∧ (∃ vs vz vl, XAt X vs vz vl w') ∧ e = .panicked broke := by
  obtain ⟨vs, vz, vl, ps, pz, hx, hd⟩ := hD
  have hxp := x_ne_pw hx hW
  have C1 : Hid (Calls Tryz.prog 65 #[.pointer (some ⟨pw, 0, none⟩)] w fun e w' => e = .returned (.string ⟨#[101, 114, 97]⟩) ∧ WLeft B pw t w' ∧ OnlyW B pw w w') := Lib.hid (text_some B pw wEra t w hW (by omega))
  obtain ⟨p0, p, S, sr, rfl, hcs, hm0, hm1, hpl⟩ := last_piece hd.zonesC hc
  obtain ⟨sa, srs⟩ := sr
  obtain ⟨A, cap, hv, hf⟩ := ow_form hd.zones.row
  obtain ⟨g, rfl, hBg, _⟩ := hf (by simp)
  have hl1' : (p0 ++ [p]).length = p0.length + 1 := by simp
  rw [hl1'] at hv
  subst hv
  have hN5 : p0.length ≤ 5000 := by have h1 := hz.zs; rw [hcs, List.length_append] at h1; simp at h1; omega
  have hpn : p.n ≤ 5000 := by
    have h1 := (hz.zones (sa, srs) (by rw [hcs]; simp)).2.1
    unfold pcT znT at hm1
    simp only [Prod.mk.injEq] at hm1
    have h2 : p.n = srs.length := hm1.2.1
    have h3 : srs.length ≤ n := h1
    omega
  have HW := Lib.hid hW
  have HX0 := Lib.hid hx
  have HD := Lib.hid hd
  have HM := Lib.hid hm
  have HCS := Lib.hid hcs
  have HM0 := Lib.hid hm0
  have HM1 := Lib.hid hm1
  obtain ⟨N, hN⟩ : ∃ N, N = p0.length := ⟨_, rfl⟩
  have HN := Lib.hid hN
  have hg0 : HasT 57 g w := ow_type hd.zones.row rfl
  have k1 : w.cell? ⟨g, N * 2 + 1, none⟩ = some p.v := by
    have := hd.zones.row
    rw [hl1'] at this
    exact ow_cell this (by rw [hN, show rcs (p0 ++ [p]) = (p0 ++ [p]).flatMap pcCells2 from rfl, flat_get pcCells2_len (p0 ++ [p]) p0.length p 1 (by simp) (by decide)]; rfl)
  obtain ⟨L, hL⟩ : ∃ L, L = p0.length + 1 := ⟨_, rfl⟩
  have HLL := Lib.hid hL
  rw [← hL] at HX0 HD
  have hLN : L = N + 1 := by omega
  have hLz : (L == 0) = false := by rw [hLN]; simp
  have hLz2 : ((L : Int) == 0) = false := by rw [hLN]; exact beq_eq_false_iff_ne.2 (by omega)
  rw [← hN] at hN5
  have hi0 : (0 : Int) ≤ (N : Int) := Int.natCast_nonneg _
  have hi1 : (N : Int) < (L : Int) := by omega
  have hi2 : IntKind.i64.wrap ((L : Int) - 1) = (N : Int) := by rw [IntKind.wrap_i64]; omega

  have HG0 := Lib.hid hg0
  have HK1 := Lib.hid k1
  have S0 : (∀ x ∈ t, x.length ≤ 5000) ∧ t.length ≤ 100000 := ⟨hs, hl⟩
  have S1 := numP_sub q0 S0.1 S0.2
  have S2 := numP_sub q1 S1.1 S1.2
  have S3 := numP_sub q2 S2.1 S2.2
  have S4 : (∀ x ∈ t4, x.length ≤ 5000) ∧ t4.length ≤ 100000 := ⟨fun x hx => S3.1 x (List.mem_cons_of_mem _ hx), by have := S3.2; simp at this; omega⟩
  obtain ⟨b, hbf⟩ : ∃ b, b = Bs f := ⟨_, rfl⟩
  have E0 : Hid (∀ W, Below B w W → WLeft B pw t W → B ≤ W.heap.size → Calls Tryz.prog 67 #[.pointer (some ⟨pw, 0, none⟩)] W fun e w' => e = .returned (.int .i64 v1) ∧ WLeft B pw t1 w' ∧ OnlyW B pw W w') := Lib.hid fun W hW' h hBW => num_yes B pw t t1 v1 W h q0 (hm.below hW' (Nat.le_refl _)) hBW S0.1 S0.2
  have E1 : Hid (∀ W, Below B w W → WLeft B pw t1 W → B ≤ W.heap.size → Calls Tryz.prog 67 #[.pointer (some ⟨pw, 0, none⟩)] W fun e w' => e = .returned (.int .i64 v2) ∧ WLeft B pw t2 w' ∧ OnlyW B pw W w') := Lib.hid fun W hW' h hBW => num_yes B pw t1 t2 v2 W h q1 (hm.below hW' (Nat.le_refl _)) hBW S1.1 S1.2
  have E2 : Hid (∀ W, Below B w W → WLeft B pw t2 W → B ≤ W.heap.size → Calls Tryz.prog 67 #[.pointer (some ⟨pw, 0, none⟩)] W fun e w' => e = .returned (.int .i64 v3) ∧ WLeft B pw (f :: t4) w' ∧ OnlyW B pw W w') := Lib.hid fun W hW' h hBW => num_yes B pw t2 (f :: t4) v3 W h q2 (hm.below hW' (Nat.le_refl _)) hBW S2.1 S2.2
  have E3 : Hid (∀ W, WLeft B pw (f :: t4) W → Calls Tryz.prog 65 #[.pointer (some ⟨pw, 0, none⟩)] W fun e w' => e = .returned (.string b) ∧ WLeft B pw t4 w' ∧ OnlyW B pw W w') := Lib.hid fun W h => by rw [hbf]; exact text_some B pw f t4 W h (by have := S4.2; omega)
  have E4 : Hid (∀ W, Below B w W → WLeft B pw t4 W → B ≤ W.heap.size → Calls Tryz.prog 67 #[.pointer (some ⟨pw, 0, none⟩)] W fun e w' => e = .panicked broke ∧ OnlyW B pw W w') := Lib.hid fun W hW' h hBW => num_no B pw t4 W h q4 (hm.below hW' (Nat.le_refl _)) hBW S4.1 S4.2
  have HLN := Lib.hid hLN
  clear hLN hL hd hz hW hx hm hcs hm0 hm1 hN hg0 k1 hc hpl hf hs hl1' q0 q1 q2 q4 S0 S1 S2 S3 S4 hbf
  go_enter Tryz.func28, Tryz.ntmps28
  go_upto_region 12 with (go_at_call 65; (with_reducible refine C1.out.mono ?_); rintro e w1 ⟨rfl, hl1, ho1⟩)
  have hb1 : Below B w w1 := ho1.below
  have hB1 : B ≤ w1.heap.size := Nat.le_trans hB ho1.grown.size
  have d0 : w1.cell? ⟨X, 1, none⟩ = some (.slice (some ⟨g, 0, none⟩) L cap) := cell_of (XAt.only HX0.out ho1 hxp) rfl
  go_wp2_with (first | (go_at_call 67; (with_reducible refine (E0.out _ hb1 hl1 hB1).mono ?_); rintro e w2 ⟨rfl, hl2, ho2⟩; have hb2 : Below B w w2 := hb1.trans ho2.below; have hB2 : B ≤ w2.heap.size := Nat.le_trans hB1 ho2.grown.size) | (go_at_call 67; (with_reducible refine (E1.out _ hb2 hl2 hB2).mono ?_); rintro e w3 ⟨rfl, hl3, ho3⟩; have hb3 : Below B w w3 := hb2.trans ho3.below; have hB3 : B ≤ w3.heap.size := Nat.le_trans hB2 ho3.grown.size) | (go_at_call 67; (with_reducible refine (E2.out _ hb3 hl3 hB3).mono ?_); rintro e w4 ⟨rfl, hl4, ho4⟩; have hb4 : Below B w w4 := hb3.trans ho4.below; have hB4 : B ≤ w4.heap.size := Nat.le_trans hB3 ho4.grown.size) | (go_at_call 65; (with_reducible refine (E3.out _ hl4).mono ?_); rintro e w5 ⟨rfl, hl5, ho5⟩; have hb5 : Below B w w5 := hb4.trans ho5.below; have hB5 : B ≤ w5.heap.size := Nat.le_trans hB4 ho5.grown.size) | (go_at_call 67; (with_reducible refine (E4.out _ hb5 hl5 hB5).mono ?_); rintro e wF ⟨rfl, hoF⟩))
  exact ⟨rfl, (((((LG.of_only ho1).trans (LG.of_only ho2)).trans (LG.of_only ho3)).trans (LG.of_only ho4)).trans (LG.of_only ho5)).trans (LG.of_only hoF), ⟨_, _, _, XAt.only (XAt.only (XAt.only (XAt.only (XAt.only (XAt.only HX0.out ho1 hxp) ho2 hxp) ho3 hxp) ho4 hxp) ho5 hxp) hoF hxp⟩, rfl⟩
end Go.Proofs.YthhjgndaiimgjaaGreatDoor
end
