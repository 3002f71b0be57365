/- Parts of a proof, laid together. -/
import Derived.StillTailTactics
import Derived.Deep.AppendLies
import Derived.Deep.RegionLaw
import Derived.BigRegion
import Derived.Deep.RegionHeld3
import Derived.Test.YthhjgndaiimgjaaGreatDoorMUSrcB22
import Derived.Test.YthhjgndaiimgjaaGreatDoorMUSrcB4
import Derived.Test.YthhjgndaiimgjaaGreatDoorMUSrcB0
import Derived.Test.YthhjgndaiimgjaaGreatDoorMUSrcB6
set_option linter.unusedSimpArgs false
set_option linter.unusedVariables false
/-! gnomonref.CheckData: the list of all names. -/
section
set_option linter.unusedVariables false
set_option linter.unusedSimpArgs false
namespace Go.Proofs.YthhjgndaiimgjaaGreatDoor
open Go.RowKit Gno
/-- the slice of texts that another holds, appended to an own one. -/
theorem wpList_appS {P : Program} {ops : Array Oper} {rest : List Oper} {o : Oper} {a : Act} {Q : Exit → Act → World → Prop} {w : World} (hgd : o.guard = none) (s x : Operand) (t : TypeId)
    (ho : o.op = .call { callee := .builtin .append, args := #[s, x], argTypes := #[t, t] })
    (base : Nat) (e : TypeId) (z : Value) (bytes : Nat) (ht : P.underlying t = some (.slice e)) (hinf : (P.info? e).map (fun i => (i.zero, i.size, i.bytes)) = some (some z, 1, bytes))
    (hzs : z.cells.size = 1)
    (v : Value) (n : Nat) (xs : List Value) (hs : a.eval s = v) (hown : w.ownsRow base e 1 v n xs)
    (A : Option Addr) (m c : Nat) (l : List ByteArray) (hx : a.eval x = .slice A m c) (B2 : Nat) (hS : StrsAt w B2 A m l) (hN : A = none → m = 0 ∧ c = 0)
    (h63 : n + m ≤ maxLen) (hbytes : (n + m) * bytes ≤ 140737488355328) (hbase : base ≤ w.heap.size)
    (h : ∀ v' w', w'.ownsRow base e 1 v' (n + m) (xs ++ strs l) → w.grownBy w' v.ownBlock → wpList P ops Q rest (a.put o.dst v') w') : wpList P ops Q (o :: rest) a w := by
  obtain ⟨i, hi, hz, hsize, hby⟩ := info_parts hinf
  cases A with
  | none =>
    obtain ⟨rfl, rfl⟩ := hN rfl
    have hl : l = [] := List.length_eq_zero_iff.1 hS.1
    subst hl
    refine wpList_append_own_none hgd s x t ho base e i 1 ht hi v n xs hs hown hx ?_
    have := h v w (by simpa [strs] using hown) (World.grownBy.refl w _)
    exact this
  | some ad =>
    refine wpList_append_own w hgd s x t ho base e i z 1 bytes ht hi hz hsize hby hzs (by decide) v n xs hs hown ad m c (strs l) hx (by simp [strs, hS.1]) (strs_cells hS) (by intro u hu; simp only [strs, List.mem_map] at hu; obtain ⟨q, _, rfl⟩ := hu; rfl) h63 hbytes hbase ?_
    exact fun v' w' h1 h2 _ => h v' w' h1 h2
def SlB (W : World) (B : Nat) (n : Nat) (l : List ByteArray) (v : Value) : Prop := ∃ A c, v = .slice A n c ∧ StrsAt W B A n l ∧ (A = none → n = 0 ∧ c = 0)
theorem SlB.below {W W' : World} {B B' : Nat} {n : Nat} {l : List ByteArray} {v : Value} (h : SlB W B n l v) (hb : Below B' W W') (hB : B ≤ B') : SlB W' B n l v := by
  obtain ⟨A, c, h1, h2, h3⟩ := h
  exact ⟨A, c, h1, h2.below hb hB, h3⟩
theorem SlB.more {W : World} {B B' : Nat} {n : Nat} {l : List ByteArray} {v : Value} (h : SlB W B n l v) (hB : B ≤ B') : SlB W B' n l v := by
  obtain ⟨A, c, h1, h2, h3⟩ := h
  exact ⟨A, c, h1, h2.more hB, h3⟩
theorem own_SlB {w : World} {B : Nat} {e : TypeId} {v : Value} {n : Nat} {l : List ByteArray} (h : w.ownsRow B e 1 v n (strs l)) (hn : n ≤ maxLen) : SlB w w.heap.size n l v := ownsRow_strs2 h hn
set_option maxRecDepth 100000 in
set_option maxHeartbeats 8000000 in
theorem rt5 {d : Dt} {w W : World} {a : Act} {K : Act → World → Prop} {v3 v4 : Value} (hM : manyD d = false) (hL : LiveR d w [(3, v3), (4, v4)] a W)
    (h3 : SlB W W.heap.size d.sn (sNames d) v3) (h4 : SlB W W.heap.size d.zn (zNames d) v4)
    (hK : ∀ a' W' v7, LiveR d w [(3, v3), (4, v4), (7, v7)] a' W' → W'.ownsRow W.heap.size 9 1 v7 (d.sn + d.zn) (strs (sNames d ++ zNames d)) → Below W.heap.size W W' → K a' W') :
    (stmR 5).wp Tryz.prog (Exit.then K (QR d w)) a W := by
  obtain ⟨A3, c3, rfl, h3, k3⟩ := h3
  obtain ⟨A4, c4, rfl, h4, k4⟩ := h4
  obtain ⟨f, rfl, hws⟩ := openR2 hL
  clear hL
  have HW := Lib.hid hws
  have HK := Lib.hid hK
  have hle := manyD_le hM
  have hs1 : d.sn ≤ 3 := hle.1
  have hs2 : d.zn ≤ 5 := hle.2.1
  have hb0 : Below W.heap.size W (W.alloc (.cells #[] 9)) := (Below.refl _ _).alloc (Nat.le_refl _) _
  have HB := Lib.hid hb0
  have H3 := Lib.hid (h3.below hb0 (Nat.le_refl _))
  have H4 := Lib.hid h4
  have K3 := Lib.hid k3
  have K4 := Lib.hid k4
  have HO : Hid ((W.alloc (.cells #[] 9)).ownsRow W.heap.size 9 1 (.slice (some ⟨W.heap.size, 0, none⟩) 0 0) 0 []) := Lib.hid (World.ownsRow_made W #[] 0 (Nat.le_refl _) (by decide) (by simp))
  have HS : Hid (strs (sNames d) ++ strs (zNames d) = strs (sNames d ++ zNames d)) := Lib.hid (by simp [strs])
  have tok : True := trivial
  clear hws hK hM hle h3 h4 k3 k4 hb0
  conv => arg 2; whnf
  go_wp2_with (first
    | (at_builtin; have _t := tok; go_must (refine wpList_appS rfl _ _ 63 rfl W.heap.size 9 (.string ⟨#[]⟩) 16 Tryz.underlying63 infoStr rfl _ 0 [] rfl HO.out A3 d.sn c3 (sNames d) rfl _ H3.out K3.out (by unfold maxLen; omega) (by omega) HB.out.size ?_); intro v' w1 hown1 hg1; have hb1 := HB.out.grown hg1 HB.out.size (fun k hk => (HO.out.lt k hk).1); clear tok _t)
    | (at_builtin; go_must (refine wpList_appS rfl _ _ 63 rfl W.heap.size 9 (.string ⟨#[]⟩) 16 Tryz.underlying63 infoStr rfl _ (0 + d.sn) _ rfl hown1 A4 d.zn c4 (zNames d) rfl _ (H4.out.below hb1 (Nat.le_refl _)) K4.out (by unfold maxLen; omega) (by omega) hb1.size ?_); intro v'' w2 hown2 hg2; have hb2 := hb1.grown hg2 hb1.size (fun k hk => (hown1.lt k hk).1)))
  rw [List.nil_append, HS.out, Nat.zero_add] at hown2
  exact HK.out _ _ _ ⟨rfl, ⟨rfl, rfl, rfl, rfl, trivial⟩, rfl, HW.out.step hb2⟩ hown2 hb2
end Go.Proofs.YthhjgndaiimgjaaGreatDoor
end
/-! gnomonref.CheckData: the links' names. -/
section
set_option linter.unusedVariables false
set_option linter.unusedSimpArgs false
namespace Go.Proofs.YthhjgndaiimgjaaGreatDoor
open Go.RowKit Gno
theorem below_drew' {B : Nat} {w w' : World} (h : Below B w w') : Below B w w'.drew := ⟨h.os, h.tape, h.output, h.size, h.block⟩
theorem near_of {w : World} {v : Value} {g n cap H : Nat} (h : v.ownBlock = some g ∨ g = H) (hH : w.heap.size = H) : NearOr w v (.slice (some ⟨g, 0, none⟩) n cap) := by
  rcases h with h | h
  · exact .inl h.symm
  · exact .inr fun k hk => by simp [Value.ownBlock] at hk; omega
set_option maxRecDepth 100000 in
set_option maxHeartbeats 8000000 in
theorem rt6 {d : Dt} {w W : World} {a : Act} {K : Act → World → Prop} {v3 v4 v7 : Value} {B4 B7 : Nat} (hD : DataAt w w.heap.size d) (hM : manyD d = false) (hL : LiveR d w [(3, v3), (4, v4), (7, v7)] a W)
    (h4 : W.ownsRow B4 9 1 v4 d.zn (strs (zNames d))) (h7 : W.ownsRow B7 9 1 v7 (d.sn + d.zn) (strs (sNames d ++ zNames d))) (h47 : Apart v4 v7)
    (hB0 : w.heap.size + 1 ≤ B4) (hB4 : B4 ≤ B7) (hB7 : B7 ≤ W.heap.size)
    (hK : ∀ a' W' v4 v7, LiveR d w [(3, v3), (4, v4), (7, v7)] a' W' → SlB W' W'.heap.size (d.zn + d.ln) (zNames d ++ lNames d) v4 → SlB W' W'.heap.size (d.sn + d.zn + 2 * d.ln) (allR d) v7 → Below B4 W W' → K a' W') :
    (stmR 6).wp Tryz.prog (Exit.then K (QR d w)) a W := by
  obtain ⟨f, rfl, hws⟩ := openR3 hL
  clear hL
  obtain ⟨i0, hi0, hz0, hz1, hz2⟩ := info_parts infoStr
  have hI := Lib.hid hi0
  have hZ0 := Lib.hid hz0
  have hZ1 := Lib.hid hz1
  have hZ2 := Lib.hid hz2
  clear hi0 hz0 hz1 hz2
  have HW := Lib.hid hws
  have HK := Lib.hid hK
  have hle := manyD_le hM
  have hs1 : d.sn ≤ 3 := hle.1
  have hs2 : d.zn ≤ 5 := hle.2.1
  have hs3 : d.ln ≤ 4 := hle.2.2
  have hsz := hws.size
  have HD := Lib.hid hD.2.2.1
  have hn : d.ln ≤ 100 := by omega
  have HLE := Lib.hid HD.out.1
  have H7 := Lib.hid h7
  have HWR : Hid (∀ W', Below B4 W W' → WR d w W') := Lib.hid (fun W' hb =>
    ⟨hws.below.trans (hb.mono (by omega)), (hb.block _ (by omega)).trans hws.d0, by have := hb.size; omega⟩)
  clear hws hK hD hM hle h7
  conv => arg 2; whnf
  go_wp2
  go_loopw [4, 7, 8] (fun b4 b7 b wr => ∃ i : Nat, i ≤ d.ln ∧ b = .int .i64 i ∧ wr.ownsRow B4 9 1 b4 (d.zn + i) (strs (zNames d ++ (lNames d).take i)) ∧
    wr.ownsRow B7 9 1 b7 (d.sn + d.zn + 2 * i) (strs (sNames d ++ zNames d ++ (d.ls.take i).flatMap linkTexts)) ∧ Hid (Apart b4 b7) ∧ Below B4 W wr) (fun _ _ b _ => d.ln - (intOf b).toNat)
  case atStart => exact ⟨0, Nat.zero_le _, rfl, by simpa using h4, by simpa using H7.out, Lib.hid h47, Below.refl _ _⟩
  case round =>
    obtain ⟨i, hi, rfl, hown4, hown7, hap, hb⟩ := hrel
    obtain ⟨c0, c1, c2⟩ := (HWR.out _ hb).cells
    have hwz := hb.size
    by_cases hit : i < d.ln
    · obtain ⟨b, o, q, hA, hbB, hq, hq1, hq1', hq2⟩ := links_get HD.out hit
      obtain ⟨e0, e1⟩ := hq2 _ (HWR.out _ hb).below
      have HA := Lib.hid hA
      rw [hA] at c2
      have HT4 : Hid (strs (zNames d ++ (lNames d).take (i + 1)) = strs (zNames d ++ (lNames d).take i) ++ [.string q.name]) := Lib.hid (by
        have h1 : (lNames d)[i]? = some q.name := by simp [lNames, hq]
        rw [take_snoc' h1]; simp [strs])
      have HT7 : Hid (strs (sNames d ++ zNames d ++ (d.ls.take (i + 1)).flatMap linkTexts) = strs (sNames d ++ zNames d ++ (d.ls.take i).flatMap linkTexts) ++ [.string q.name, .string q.to]) := Lib.hid (by
        rw [take_snoc' hq]; simp [strs, linkTexts])
      have HC : Hid (∀ w1, Below B4 W w1 → w1.cell? ⟨w.heap.size, 2, none⟩ = some (.slice (some ⟨b, o, none⟩) d.ln d.lc) ∧ w1.cell? ⟨b, o + i * 2, none⟩ = some (.string q.name) ∧ w1.cell? ⟨b, o + i * 2 + 1, none⟩ = some (.string q.to)) := Lib.hid (fun w1 h1 =>
        ⟨by rw [← HA.out]; exact (HWR.out _ h1).cells.2.2, hq2 _ (HWR.out _ h1).below⟩)
      clear hq hq2 hA hq1 hq1'
      go_wp2_with (
        (at_builtin; go_must (refine wpList_app2 rfl _ _ 63 rfl B4 9 (.string ⟨#[]⟩) 1 16 Tryz.underlying63 infoStr rfl (by decide) _ (d.zn + i) _ rfl (hown4.alloc (.cells #[.string q.name] 9)) ⟨wr.heap.size, 0, none⟩ 1 1 [.string q.name] rfl rfl (laid_at (cs := #[.string q.name])) (by intro u hu; simp at hu; subst hu; rfl) (by unfold maxLen; omega) (by omega) (by simp; omega) ?_); intro v' w1 hown4' hg1 hn1))
      obtain ⟨hown7', hap'⟩ := own_apart (hown7.alloc (.cells #[.string q.name] 9)) hg1 hap.out hn1
      have hb1 : Below B4 W w1 := (hb.alloc (by omega) (.cells #[.string q.name] 9)).grown hg1 (by simp; omega) (fun k hk => ((hown4.alloc (.cells #[.string q.name] 9)).lt k hk).1)
      obtain ⟨k2, m0, m1⟩ := HC.out _ hb1
      have HAP := Lib.hid hap'
      clear hap' hap hg1 hn1 hown7 hown4 c0 c1 c2 e0 e1
      have HO7 : Hid ((w1.alloc (.cells #[.string q.name, .string q.to] 9)).ownsRow B7 9 1 u7 (d.sn + d.zn + 2 * i) (strs (sNames d ++ zNames d ++ (d.ls.take i).flatMap linkTexts))) := Lib.hid (hown7'.alloc _)
      have HO4 : Hid ((w1.alloc (.cells #[.string q.name, .string q.to] 9)).ownsRow B4 9 1 v' (d.zn + i + 1) (strs (zNames d ++ (lNames d).take i) ++ [.string q.name])) := Lib.hid (hown4'.alloc _)
      have HLA : Hid (∀ j u, [Value.string q.name, .string q.to][j]? = some u → (w1.alloc (.cells #[.string q.name, .string q.to] 9)).cell? ((⟨w1.heap.size, 0, none⟩ : Addr).add j) = some u) := Lib.hid (laid_at (cs := #[.string q.name, .string q.to]))
      have HB1 : Hid (Below B4 W (w1.alloc (.cells #[.string q.name, .string q.to] 9))) := Lib.hid (hb1.alloc (by have := hb1.size; omega) _)
      have hz1 := hb1.size
      clear hown4' hown7' hb1
      go_region_law (refine step_append_lies _ rfl _ _ 63 rfl B7 9 i0 (.string ⟨#[]⟩) 1 16 Tryz.underlying63 hI.out hZ0.out hZ1.out hZ2.out rfl (by decide) u7 (d.sn + d.zn + 2 * i) _ rfl HO7.out ⟨w1.heap.size, 0, none⟩ 2 2 [.string q.name, .string q.to] rfl rfl HLA.out (by intro u hu; simp at hu; rcases hu with rfl | rfl <;> rfl) (by decide) (by unfold maxLen; omega) (by omega) (by simp; omega) _ rfl ?_; intro g cap w3 hown7f hg2 hat hlt)
      all_goals
        have hnear := near_of (n := d.sn + d.zn + 2 * i + 2) (cap := cap) hat rfl
        have hAP := fun h2 => own_apart (v2 := v') (B2 := B4) (n2 := d.zn + i + 1) (xs2 := strs (zNames d ++ (lNames d).take i) ++ [.string q.name]) (e := 9) (sz := 1) h2 hg2 HAP.out.symm hnear
        obtain ⟨hown4f, hap2⟩ := hAP HO4.out
        have hb3 : Below B4 W w3 := (show Below B4 W _ from below_drew' HB1.out).grown hg2 (by simp; omega) (fun k hk => by have := (HO7.out.lt k hk).1; omega)
        have HAP2 := Lib.hid hap2.symm
        clear hap2 hg2 hat hlt hnear hAP
        go_wp2
        go_roundw
        case rel => exact ⟨i + 1, by omega, by go_num, by rw [HT4.out]; exact hown4f, by rw [HT7.out]; exact hown7f, HAP2, hb3⟩
        case measure => simp [intOf]; omega
    · have hin : i = d.ln := by omega
      have hX4 : SlB wr wr.heap.size (d.zn + d.ln) (zNames d ++ lNames d) u4 := by
        have h1 := hown4
        rw [List.take_of_length_le (by unfold lNames; rw [List.length_map, HLE.out]; omega), hin] at h1
        exact own_SlB h1 (by unfold maxLen; omega)
      have hX7 : SlB wr wr.heap.size (d.sn + d.zn + 2 * d.ln) (allR d) u7 := by
        have h1 := hown7
        rw [List.take_of_length_le (by rw [HLE.out]; omega), hin] at h1
        exact own_SlB h1 (by unfold maxLen; omega)
      have HX4 := Lib.hid hX4
      have HX7 := Lib.hid hX7
      clear hX4 hX7 hown4 hown7 hap hin
      go_wp2
      exact HK.out _ _ _ _ ⟨rfl, ⟨rfl, rfl, rfl, rfl, trivial⟩, rfl, HWR.out _ hb⟩ HX4.out HX7.out hb
end Go.Proofs.YthhjgndaiimgjaaGreatDoor
end
/-! gnomonref.CheckData: the names, alike ones, the rules. -/
section
set_option linter.unusedVariables false
set_option linter.unusedSimpArgs false
namespace Go.Proofs.YthhjgndaiimgjaaGreatDoor
open Go.RowKit Gno
set_option maxRecDepth 100000 in
set_option maxHeartbeats 8000000 in
theorem rt7 {d : Dt} {w W : World} {a : Act} {K : Act → World → Prop} {v3 v4 v7 : Value} {m : Nat} (hD : DataAt w w.heap.size d) (hm1 : m ≤ 1000) (hE : dataE d = dE3 d)
    (hL : LiveR d w [(3, v3), (4, v4), (7, v7)] a W) (h7 : SlB W W.heap.size m (allR d) v7)
    (hK : ∀ a', anyI (fun _ => badNm) (allNames d) = false → LiveR d w [(3, v3), (4, v4), (7, v7)] a' W → K a' W) :
    (stmR 7).wp Tryz.prog (Exit.then K (QR d w)) a W := by
  obtain ⟨A, c, rfl, hR, _⟩ := h7
  obtain ⟨f, rfl, hws⟩ := openR3 hL
  clear hL
  have HW := Lib.hid hws
  have HK := Lib.hid hK
  have HE := Lib.hid hE
  have HS := Lib.hid (size_all hD)
  have HR := Lib.hid hR
  have HLE := Lib.hid hR.1
  clear hws hK hE hD hR
  conv => arg 2; whnf
  go_wp2
  go_loopw [9] (fun b wr => ∃ i : Nat, i ≤ m ∧ b = .int .i64 i ∧ Hid (anyTo (atI (fun _ => badNm) (allR d)) i = false) ∧ Hid (wr = W)) (fun b _ => m - (intOf b).toNat)
  case atStart => exact ⟨0, Nat.zero_le _, rfl, Lib.hid rfl, Lib.hid rfl⟩
  case round =>
    obtain ⟨i, hi, rfl, hfi, hw⟩ := hrel
    obtain rfl := hw.out
    by_cases hit : i < m
    · obtain ⟨b, o, s, rfl, hbB, hq, hq2⟩ := HR.out.get hit
      have HQ := Lib.hid hq
      have e0 := hq2 _ (Below.refl _ _)
      have NA1 := isName_any s wr (HS.out s ((mem_allR d s).1 (List.mem_of_getElem? hq)))
      clear hq hq2
      cases hnm : nameOk s
      · rw [hnm] at NA1
        have NA := Lib.hid NA1
        have HM : Hid (dataE d = 5) := Lib.hid (by rw [HE.out]; unfold dE3; rw [if_pos (by rw [← any_allR]; exact anyI_yes HQ.out (by unfold badNm; simp [hnm]))])
        clear hnm hfi NA1
        go_wp2_with (go_at_call 17; (with_reducible refine NA.out.mono ?_); rintro e w5 ⟨rfl, rfl⟩)
        go_ret
        exact ⟨ret_int HM.out.symm, HW.out.below⟩
      · rw [hnm] at NA1
        have NA := Lib.hid NA1
        have HM := Lib.hid (anyI_no (p := fun _ => badNm) HQ.out hfi.out (by unfold badNm; simp [hnm]))
        clear hnm hfi NA1
        go_wp2_with (go_at_call 17; (with_reducible refine NA.out.mono ?_); rintro e w5 ⟨rfl, rfl⟩)
        go_roundw
        case rel => exact ⟨i + 1, by omega, by go_num, HM, Lib.hid trivial⟩
        case measure => simp [intOf]; omega
    · have HM : Hid (anyI (fun _ => badNm) (allNames d) = false) := Lib.hid (by rw [← any_allR]; exact anyI_end (by rw [HLE.out]; omega) (by rw [HLE.out]; exact hi) hfi.out)
      clear hfi
      go_wp2
      exact HK.out _ HM.out ⟨rfl, ⟨rfl, rfl, rfl, rfl, trivial⟩, rfl, HW.out⟩
set_option maxRecDepth 100000 in
set_option maxHeartbeats 8000000 in
theorem rt8 {d : Dt} {w W : World} {a : Act} {K : Act → World → Prop} {v3 v4 v7 : Value} {m : Nat} (hE : dataE d = dE4 d)
    (hL : LiveR d w [(3, v3), (4, v4), (7, v7)] a W) (h3 : SlB W W.heap.size d.sn (sNames d) v3) (h4 : SlB W W.heap.size m (zNames d ++ lNames d) v4)
    (hK : ∀ a' W', (dup (sNames d) || dup (zNames d ++ lNames d)) = false → LiveR d w [] a' W' → K a' W') :
    (stmR 8).wp Tryz.prog (Exit.then K (QR d w)) a W := by
  obtain ⟨A3, c3, rfl, h3, _⟩ := h3
  obtain ⟨A4, c4, rfl, h4, _⟩ := h4
  obtain ⟨f, rfl, hws⟩ := openR3 hL
  clear hL
  have HW := Lib.hid hws
  have HK := Lib.hid hK
  have HE := Lib.hid hE
  have T1 := twice_any A3 d.sn c3 _ W h3
  have T2 : Hid (∀ W1, Below W.heap.size W W1 → Calls Tryz.prog 18 #[.slice A4 m c4] W1 fun e w' => e = .returned (.bool (dup (zNames d ++ lNames d))) ∧ Below W1.heap.size W1 w') := Lib.hid (fun W1 hb => twice_any A4 m c4 _ W1 ((h4.below hb (Nat.le_refl _)).more hb.size))
  clear hws hK hE h3 h4
  conv => arg 2; whnf
  cases hd1 : dup (sNames d)
  · rw [hd1] at T1
    have TA := Lib.hid T1
    have HD1 := Lib.hid hd1
    clear T1 hd1
    cases hd2 : dup (zNames d ++ lNames d)
    · rw [hd2] at T2
      have HM : Hid ((dup (sNames d) || dup (zNames d ++ lNames d)) = false) := Lib.hid (by rw [HD1.out, hd2]; rfl)
      clear hd2
      go_wp2_with (first
        | (go_at_call 18; (with_reducible refine TA.out.mono ?_); rintro e w4 ⟨rfl, hb4⟩)
        | (go_at_call 18; (with_reducible refine (T2.out _ hb4).mono ?_); rintro e w5 ⟨rfl, hb5⟩))
      exact HK.out _ _ HM.out ⟨rfl, ⟨rfl, trivial⟩, rfl, HW.out.step (hb4.trans (hb5.mono hb4.size))⟩
    · rw [hd2] at T2
      have HM : Hid (dataE d = 6) := Lib.hid (by rw [HE.out]; unfold dE4; rw [if_pos (by rw [hd2]; simp)])
      clear hd2
      go_wp2_with (first
        | (go_at_call 18; (with_reducible refine TA.out.mono ?_); rintro e w4 ⟨rfl, hb4⟩)
        | (go_at_call 18; (with_reducible refine (T2.out _ hb4).mono ?_); rintro e w5 ⟨rfl, hb5⟩))
      go_ret
      exact ⟨ret_int HM.out.symm, (HW.out.step (hb4.trans (hb5.mono hb4.size))).below⟩
  · rw [hd1] at T1
    have TA := Lib.hid T1
    have HM : Hid (dataE d = 6) := Lib.hid (by rw [HE.out]; unfold dE4; rw [if_pos (by rw [hd1]; simp)])
    clear T1 hd1
    go_wp2_with (go_at_call 18; (with_reducible refine TA.out.mono ?_); rintro e w4 ⟨rfl, hb4⟩)
    go_ret
    exact ⟨ret_int HM.out.symm, (HW.out.step hb4).below⟩
set_option maxRecDepth 100000 in
set_option maxHeartbeats 8000000 in
theorem rt9 {d : Dt} {w W : World} {a : Act} {K : Act → World → Prop} (hD : DataAt w w.heap.size d) (hE : dataE d = dE5 d) (hL : LiveR d w [] a W)
    (hK : ∀ a' W', setsE d.ss = 0 → LiveR d w [] a' W' → K a' W') :
    (stmR 9).wp Tryz.prog (Exit.then K (QR d w)) a W := by
  obtain ⟨f, rfl, hws⟩ := openR0 hL
  clear hL
  have HW := Lib.hid hws
  have HK := Lib.hid hK
  have HE := Lib.hid hE
  have hsz := hws.size
  have HD := Lib.hid ((hD.next hws.below).1)
  have hn : d.sn ≤ 9223372036854775807 := HD.out.2.1
  have HLE := Lib.hid HD.out.1
  clear hws hK hE hD
  conv => arg 2; whnf
  go_wp2
  go_loopw [10] (fun b wr => ∃ i : Nat, i ≤ d.sn ∧ b = .int .i64 i ∧ Hid (setsE (d.ss.drop i) = setsE d.ss) ∧ Below W.heap.size W wr) (fun b _ => d.sn - (intOf b).toNat)
  case atStart => exact ⟨0, Nat.zero_le _, rfl, Lib.hid (by rw [List.drop_zero]), Below.refl _ _⟩
  case round =>
    obtain ⟨i, hi, rfl, hfi, hb⟩ := hrel
    obtain ⟨c0, c1, c2⟩ := (HW.out.step hb).cells
    by_cases hit : i < d.sn
    · obtain ⟨b, o, q, hA, hbB, hq, hq1, hq2⟩ := sets_get HD.out hit
      have HQ := Lib.hid (setsE_drop hq)
      have HA := Lib.hid hA
      have HP := Lib.hid (hq2 W (Below.refl _ _)).2
      have hqn : q.n ≤ 9223372036854775807 := HP.out.2.1
      have HPL := Lib.hid HP.out.1
      have HC : Hid (∀ w1, Below W.heap.size W w1 → w1.cell? ⟨w.heap.size, 0, none⟩ = some (.slice (some ⟨b, o, none⟩) d.sn d.sc) ∧ w1.cell? ⟨b, o + i * 2 + 1, none⟩ = some (.slice q.A q.n q.cap)) := Lib.hid (fun w1 h1 =>
        ⟨by rw [← HA.out]; exact (HW.out.step h1).cells.1, ((hq2 _ h1).1).2⟩)
      obtain ⟨wo, hwo⟩ : ∃ wo : World, wo = wr := ⟨_, rfl⟩
      rw [← hwo] at hb c0
      rw [← hwo]
      clear hq hq2 hA hwo c1 c2
      go_wp2
      go_loopw [11, 12] (fun b b12 wr => ∃ j : Nat, j ≤ q.n ∧ b = .int .i64 j ∧ Hid (firstE (q.rs.drop j) = firstE q.rs) ∧ Below W.heap.size W wr) (fun b _ _ => q.n - (intOf b).toNat)
      case atStart => exact ⟨0, Nat.zero_le _, rfl, Lib.hid (by rw [List.drop_zero]), hb⟩
      case round =>
        obtain ⟨j, hj, rfl, hfj, hbj⟩ := hrel
        obtain ⟨k0, k1⟩ := HC.out _ hbj
        by_cases hjt : j < q.n
        · obtain ⟨c, g, r, hA2, hcB, hr, hle, hr2⟩ := HP.out.get hjt
          obtain ⟨r0, r1, r2, r3, r4, r5, r6, r7, r8⟩ := hr2 _ hbj
          rw [hA2] at k1
          have FD := Lib.hid (firstE_drop hr)
          have RC : Hid (∀ w, Calls Tryz.prog 19 #[.agg #[.int .i64 r.fy, .int .i64 r.ty, .int .i64 r.mo, .int .i64 r.k, .int .i64 r.wk, .int .i64 r.d, .int .i64 r.a, .int .i64 r.sv, .string r.le]] w fun e w' => e = .returned (.int .i64 r.e) ∧ Below w.heap.size w w') := Lib.hid (fun w => checkRule_any r.fy r.ty r.mo r.k r.wk r.d r.a r.sv r.le w hle)
          clear hr hr2 hA2 hle
          by_cases he : r.e = 0
          · have heb : (r.e != 0) = false := by simpa using he
            have HX := Lib.hid ((FD.out.2 he).symm.trans hfj.out)
            clear he hfj
            go_wp2_with (go_at_call 19; (with_reducible refine (RC.out _).mono ?_); rintro e w4 ⟨rfl, hb4⟩; have hb5 := hbj.trans (hb4.mono hbj.size); clear hb4)
            go_roundw
            case rel => exact ⟨j + 1, by omega, by go_num, HX, hb5⟩
            case measure => simp [intOf]; omega
          · have heb : (r.e != 0) = true := by simpa using he
            have HM : Hid (dataE d = r.e) := Lib.hid (by
              have h1 : firstE q.rs = r.e := by rw [← hfj.out]; exact FD.out.1 he
              have h2 : setsE d.ss = r.e := by rw [← hfi.out, HQ.out.1 (by rw [h1]; exact he)]; exact h1
              rw [HE.out]; unfold dE5; rw [if_pos (by rw [h2]; exact he)]; exact h2)
            clear he hfj hfi
            go_wp2_with (go_at_call 19; (with_reducible refine (RC.out _).mono ?_); rintro e w4 ⟨rfl, hb4⟩; have hb5 := hbj.trans (hb4.mono hbj.size); clear hb4)
            go_ret
            exact ⟨ret_int HM.out.symm, (HW.out.step hb5).below⟩
        · have HX : Hid (setsE (d.ss.drop (i + 1)) = setsE d.ss) := Lib.hid (by
            have h1 : firstE q.rs = 0 := by rw [← hfj.out, List.drop_of_length_le (by rw [HPL.out]; omega)]; rfl
            exact (HQ.out.2 h1).symm.trans hfi.out)
          clear hfj hfi
          go_wp2
          go_roundw
          case rel => exact ⟨i + 1, by omega, by go_num, HX, hbj⟩
          case measure => simp [intOf]; omega
    · have HM : Hid (setsE d.ss = 0) := Lib.hid (by rw [← hfi.out, List.drop_of_length_le (by rw [HLE.out]; omega)]; rfl)
      clear hfi
      go_wp2
      exact HK.out _ _ HM.out ⟨rfl, ⟨rfl, trivial⟩, rfl, HW.out.step hb⟩
end Go.Proofs.YthhjgndaiimgjaaGreatDoor
end
/-! gnomonref.CheckData: the eras and their formats. -/
section
set_option linter.unusedVariables false
set_option linter.unusedSimpArgs false
namespace Gno
open Go
theorem ahead_is (es : List Er) (i : Nat) : aheadG 0 es i = aheadOf es i := by cases i <;> rfl
def badZ (d : Dt) (z : Zn) : Bool := (aheads 0 z.es).any (badE d) || badEnd z
theorem badZ_all (d : Dt) : anyI (fun _ => badZ d) d.zs = ((erasL d.zs).any (badE d) || anyI (fun _ => badEnd) d.zs) := by
  rw [anyI_any, anyI_any]
  unfold erasL
  rw [List.any_flatMap]
  induction d.zs with
  | nil => rfl
  | cons z t ih =>
    simp only [List.any_cons]
    rw [ih]
    unfold badZ
    cases (aheads 0 z.es).any (badE d) <;> cases badEnd z <;> simp
def badFZ (z : Zn) : Bool := (aheads 0 z.es).any badF
theorem badFZ_all (d : Dt) : anyI (fun _ => badFZ) d.zs = (erasL d.zs).any badF := by
  rw [anyI_any]
  unfold erasL
  rw [List.any_flatMap]
  rfl
theorem dE6_bad {d : Dt} (h : anyI (fun _ => badZ d) d.zs = true) : dE6 d = 3 := by
  rw [badZ_all] at h
  unfold dE6
  by_cases h1 : (erasL d.zs).any (badE d) = true
  · rw [if_pos h1]
  · rw [if_neg h1]
    unfold dE7
    rw [if_pos (by simpa [h1] using h)]
theorem dE6_good {d : Dt} (h : anyI (fun _ => badZ d) d.zs = false) : dE6 d = dE8 d := by
  rw [badZ_all, Bool.or_eq_false_iff] at h
  unfold dE6
  rw [if_neg (by rw [h.1]; simp)]
  unfold dE7
  rw [if_neg (by rw [h.2]; simp)]
end Gno
namespace Go.Proofs.YthhjgndaiimgjaaGreatDoor
open Go.RowKit Gno
set_option maxRecDepth 100000 in
set_option maxHeartbeats 8000000 in
theorem rt10 {d : Dt} {w W : World} {a : Act} {K : Act → World → Prop} (hD : DataAt w w.heap.size d) (hM : manyD d = false) (hE : dataE d = dE6 d) (hL : LiveR d w [] a W)
    (hK : ∀ a' W', anyI (fun _ => badZ d) d.zs = false → LiveR d w [] a' W' → K a' W') :
    (stmR 10).wp Tryz.prog (Exit.then K (QR d w)) a W := by
  obtain ⟨f, rfl, hws⟩ := openR0 hL
  clear hL
  have HW := Lib.hid hws
  have HK := Lib.hid hK
  have HE := Lib.hid hE
  have hsz := hws.size
  have HD := Lib.hid ((hD.next hws.below).2.1)
  have hn : d.zn ≤ 9223372036854775807 := HD.out.2.1
  have HLE := Lib.hid HD.out.1
  have hle := (manyD_le hM).1
  have HSN : Hid (d.sn ≤ maxLen) := Lib.hid (by unfold maxLen; omega)
  clear hws hK hE hD hM hle
  conv => arg 2; whnf
  go_wp2
  go_loopw [13] (fun b wr => ∃ i : Nat, i ≤ d.zn ∧ b = .int .i64 i ∧ Hid (anyTo (atI (fun _ => badZ d) d.zs) i = false) ∧ Below W.heap.size W wr) (fun b _ => d.zn - (intOf b).toNat)
  case atStart => exact ⟨0, Nat.zero_le _, rfl, Lib.hid rfl, Below.refl _ _⟩
  case round =>
    obtain ⟨i, hi, rfl, hfi, hb⟩ := hrel
    obtain ⟨c0, c1, c2⟩ := (HW.out.step hb).cells
    by_cases hit : i < d.zn
    · obtain ⟨b, o, q, hA, hbB, hq, hq1, hq2⟩ := zones_get HD.out hit
      have HQ := Lib.hid hq
      have HA := Lib.hid hA
      have HP := Lib.hid (hq2 W (Below.refl _ _)).2
      have hqn : q.n ≤ 9223372036854775807 := HP.out.2.1
      have HPL := Lib.hid HP.out.1
      have HC : Hid (∀ w1, Below W.heap.size W w1 → w1.cell? ⟨w.heap.size, 1, none⟩ = some (.slice (some ⟨b, o, none⟩) d.zn d.zc) ∧ w1.cell? ⟨b, o + i * 2 + 1, none⟩ = some (.slice q.A q.n q.cap)) := Lib.hid (fun w1 h1 =>
        ⟨by rw [← HA.out]; exact (HW.out.step h1).cells.2.1, ((hq2 _ h1).1).2⟩)
      obtain ⟨wo, hwo⟩ : ∃ wo : World, wo = wr := ⟨_, rfl⟩
      rw [← hwo] at hb c1
      rw [← hwo]
      clear hq hq2 hA hwo c0 c2
      go_wp2
      go_loopw [14, 15] (fun b14 b wr => ∃ j : Nat, j ≤ q.n ∧ b = .int .i64 j ∧ b14 = .int .i64 (aheadG 0 q.es j) ∧ Hid ((aheads 0 (q.es.take j)).any (badE d) = false) ∧ Below W.heap.size W wr) (fun _ b _ => q.n - (intOf b).toNat)
      case atStart => exact ⟨0, Nat.zero_le _, rfl, rfl, Lib.hid (by rw [List.take_zero]; rfl), hb⟩
      case round =>
        obtain ⟨j, hj, rfl, rfl, hfj, hbj⟩ := hrel
        obtain ⟨k0, k1⟩ := HC.out _ hbj
        by_cases hjt : j < q.n
        · obtain ⟨c, g, x, hA2, hcB, hx, hxf, hxx⟩ := eras_get HP.out hjt
          obtain ⟨x0, x1, x2, x3, x4⟩ := hxx _ hbj
          rw [hA2] at k1
          have HX := Lib.hid hx
          have hbx := hbj.alloc hbj.size (.cells #[.int .i64 x.std, .int .i64 x.set, .int .i64 x.save, .string x.fmt, .int .i64 x.til] 59)
          have hzj := hbj.size
          obtain ⟨ah, hah⟩ : ∃ ah, ah = aheadG 0 q.es j := ⟨_, rfl⟩
          rw [← hah]
          have HAH := Lib.hid hah
          obtain ⟨m0, m1, m2⟩ := (HW.out.step hbx).cells
          have EF : ∀ w, Calls Tryz.prog 20 #[.agg #[.slice d.sA d.sn d.sc, .slice d.zA d.zn d.zc, .slice d.lA d.ln d.lc], .agg #[.int .i64 x.std, .int .i64 x.set, .int .i64 x.save, .string x.fmt, .int .i64 x.til], .int .i64 ah] w fun e w' => e = .returned (.bool (eraOk d.sn x ah)) ∧ Below w.heap.size w w' := fun w => eraFine_any d x ah w HSN.out
          have HB5 : Hid (∀ w5, Below (wr.heap.size + 1) (wr.alloc (.cells #[.int .i64 x.std, .int .i64 x.set, .int .i64 x.save, .string x.fmt, .int .i64 x.til] 59)) w5 → Below W.heap.size W w5 ∧ w5.cell? ⟨wr.heap.size, 4, none⟩ = some (.int .i64 x.til)) := Lib.hid (fun w5 h5 =>
            ⟨hbx.trans (h5.mono (by omega)), (h5.cell (by simp)).trans (by simp)⟩)
          rw [HA.out] at m1 EF
          clear hx hxx hA2 hxf hah
          cases hok : eraOk d.sn x ah
          · rw [hok] at EF
            have EF := Lib.hid EF
            have HM : Hid (dataE d = 3) := Lib.hid (by
              rw [HE.out]
              refine dE6_bad (anyI_yes HQ.out ?_)
              unfold badZ
              rw [any_mid (aheads_split HX.out) (by unfold badE; rw [← HAH.out, hok]; rfl)]; rfl)
            clear hok hfj hfi
            rw [HA.out] at *
            go_wp2_with (go_at_call 20; (with_reducible refine (EF.out _).mono ?_); rintro e w5 ⟨rfl, hb5⟩; simp only [World.size_alloc] at hb5; obtain ⟨hb6, e4⟩ := HB5.out _ hb5)
            go_ret
            exact ⟨ret_int HM.out.symm, (HW.out.step hb6).below⟩
          · rw [hok] at EF
            have EF := Lib.hid EF
            have HM : Hid ((aheads 0 (q.es.take (j + 1))).any (badE d) = false) := Lib.hid (by
              rw [aheads_take HX.out]
              exact any_more hfj.out (by unfold badE; rw [← HAH.out, hok]; rfl))
            have HN : Hid (aheadG 0 q.es (j + 1) = x.til) := Lib.hid (by simp only [aheadG, HX.out])
            clear hok hfj
            go_wp2_with (go_at_call 20; (with_reducible refine (EF.out _).mono ?_); rintro e w5 ⟨rfl, hb5⟩; simp only [World.size_alloc] at hb5; obtain ⟨hb6, e4⟩ := HB5.out _ hb5)
            go_roundw
            case rel => exact ⟨j + 1, by omega, by go_num, by rw [HN.out], HM, hb6⟩
            case measure => simp [intOf]; omega
        · have hjn : j = q.n := by omega
          have HF : Hid ((aheads 0 q.es).any (badE d) = false) := Lib.hid (by
            have h1 := hfj.out
            rwa [List.take_of_length_le (by rw [HPL.out]; omega)] at h1)
          have HEnd : Hid (badEnd q = decide (aheadG 0 q.es j ≠ 1893456000)) := Lib.hid (by unfold badEnd; rw [← ahead_is, HPL.out, hjn])
          obtain ⟨ah, hah⟩ : ∃ ah, ah = aheadG 0 q.es j := ⟨_, rfl⟩
          rw [← hah] at HEnd ⊢
          clear hfj hah
          by_cases h1 : ah = 1893456000
          · have g1 : (ah != 1893456000) = false := by simpa using h1
            have HX := Lib.hid (anyI_no (p := fun _ => badZ d) HQ.out hfi.out (by unfold badZ; rw [HF.out, HEnd.out]; simp [h1]))
            clear h1 hfi
            go_wp2
            go_roundw
            case rel => exact ⟨i + 1, by omega, by go_num, HX, hbj⟩
            case measure => simp [intOf]; omega
          · have g1 : (ah != 1893456000) = true := by simpa using h1
            have HM : Hid (dataE d = 3) := Lib.hid (by
              rw [HE.out]
              exact dE6_bad (anyI_yes HQ.out (by unfold badZ; rw [HEnd.out]; simp [h1])))
            clear h1 hfi
            go_wp2
            go_ret
            exact ⟨ret_int HM.out.symm, (HW.out.step hbj).below⟩
    · have HM := Lib.hid (anyI_end (by rw [HLE.out]; omega) (by rw [HLE.out]; exact hi) hfi.out)
      clear hfi
      go_wp2
      exact HK.out _ _ HM.out ⟨rfl, ⟨rfl, trivial⟩, rfl, HW.out.step hb⟩
set_option maxRecDepth 100000 in
set_option maxHeartbeats 8000000 in
theorem rt11 {d : Dt} {w W : World} {a : Act} {K : Act → World → Prop} (hD : DataAt w w.heap.size d) (hE : dataE d = dE8 d) (hL : LiveR d w [] a W)
    (hK : ∀ a' W', (erasL d.zs).any badF = false → LiveR d w [] a' W' → K a' W') :
    (stmR 11).wp Tryz.prog (Exit.then K (QR d w)) a W := by
  obtain ⟨f, rfl, hws⟩ := openR0 hL
  clear hL
  have HW := Lib.hid hws
  have HK := Lib.hid hK
  have HE := Lib.hid hE
  have hsz := hws.size
  have HD := Lib.hid ((hD.next hws.below).2.1)
  have hn : d.zn ≤ 9223372036854775807 := HD.out.2.1
  have HLE := Lib.hid HD.out.1
  clear hws hK hE hD
  conv => arg 2; whnf
  go_wp2
  go_loopw [17] (fun b wr => ∃ i : Nat, i ≤ d.zn ∧ b = .int .i64 i ∧ Hid (anyTo (atI (fun _ => badFZ) d.zs) i = false) ∧ Below W.heap.size W wr) (fun b _ => d.zn - (intOf b).toNat)
  case atStart => exact ⟨0, Nat.zero_le _, rfl, Lib.hid rfl, Below.refl _ _⟩
  case round =>
    obtain ⟨i, hi, rfl, hfi, hb⟩ := hrel
    obtain ⟨c0, c1, c2⟩ := (HW.out.step hb).cells
    by_cases hit : i < d.zn
    · obtain ⟨b, o, q, hA, hbB, hq, hq1, hq2⟩ := zones_get HD.out hit
      have HQ := Lib.hid hq
      have HA := Lib.hid hA
      have HP := Lib.hid (hq2 W (Below.refl _ _)).2
      have hqn : q.n ≤ 9223372036854775807 := HP.out.2.1
      have HPL := Lib.hid HP.out.1
      have HC : Hid (∀ w1, Below W.heap.size W w1 → w1.cell? ⟨w.heap.size, 1, none⟩ = some (.slice (some ⟨b, o, none⟩) d.zn d.zc) ∧ w1.cell? ⟨b, o + i * 2 + 1, none⟩ = some (.slice q.A q.n q.cap)) := Lib.hid (fun w1 h1 =>
        ⟨by rw [← HA.out]; exact (HW.out.step h1).cells.2.1, ((hq2 _ h1).1).2⟩)
      obtain ⟨wo, hwo⟩ : ∃ wo : World, wo = wr := ⟨_, rfl⟩
      rw [← hwo] at hb c1
      rw [← hwo]
      clear hq hq2 hA hwo c0 c2
      go_wp2
      go_loopw [18] (fun b wr => ∃ j : Nat, j ≤ q.n ∧ b = .int .i64 j ∧ Hid ((aheads 0 (q.es.take j)).any badF = false) ∧ Below W.heap.size W wr) (fun b _ => q.n - (intOf b).toNat)
      case atStart => exact ⟨0, Nat.zero_le _, rfl, Lib.hid (by rw [List.take_zero]; rfl), hb⟩
      case round =>
        obtain ⟨j, hj, rfl, hfj, hbj⟩ := hrel
        obtain ⟨k0, k1⟩ := HC.out _ hbj
        by_cases hjt : j < q.n
        · obtain ⟨c, g, x, hA2, hcB, hx, hxf, hxx⟩ := eras_get HP.out hjt
          obtain ⟨x0, x1, x2, x3, x4⟩ := hxx _ hbj
          rw [hA2] at k1
          have HX := Lib.hid hx
          have FF : ∀ w, Calls Tryz.prog 21 #[.string x.fmt] w fun e w' => e = .returned (.bool (fmtOk x.fmt)) ∧ Below w.heap.size w w' := fun w => isFormat_any x.fmt w hxf
          clear hx hxx hA2 hxf
          cases hok : fmtOk x.fmt
          · rw [hok] at FF
            have EF := Lib.hid FF
            have HM : Hid (dataE d = 1) := Lib.hid (by
              rw [HE.out]
              unfold dE8
              rw [if_pos (by rw [← badFZ_all]; exact anyI_yes HQ.out (any_mid (aheads_split HX.out) (by unfold badF; rw [hok]; rfl)))])
            clear hok hfj hfi FF
            go_wp2_with (go_at_call 21; (with_reducible refine (EF.out _).mono ?_); rintro e w5 ⟨rfl, hb5⟩)
            go_ret
            exact ⟨ret_int HM.out.symm, (HW.out.step (hbj.trans (hb5.mono hbj.size))).below⟩
          · rw [hok] at FF
            have EF := Lib.hid FF
            have HM : Hid ((aheads 0 (q.es.take (j + 1))).any badF = false) := Lib.hid (by
              rw [aheads_take HX.out]
              exact any_more hfj.out (by unfold badF; rw [hok]; rfl))
            clear hok hfj FF
            go_wp2_with (go_at_call 21; (with_reducible refine (EF.out _).mono ?_); rintro e w5 ⟨rfl, hb5⟩; have hb6 := hbj.trans (hb5.mono hbj.size); clear hb5)
            go_roundw
            case rel => exact ⟨j + 1, by omega, by go_num, HM, hb6⟩
            case measure => simp [intOf]; omega
        · have HX := Lib.hid (anyI_no (p := fun _ => badFZ) HQ.out hfi.out (by
            have h1 := hfj.out
            rwa [List.take_of_length_le (by rw [HPL.out]; omega)] at h1))
          clear hfj hfi
          go_wp2
          go_roundw
          case rel => exact ⟨i + 1, by omega, by go_num, HX, hbj⟩
          case measure => simp [intOf]; omega
    · have HM : Hid ((erasL d.zs).any badF = false) := Lib.hid (by rw [← badFZ_all]; exact anyI_end (by rw [HLE.out]; omega) (by rw [HLE.out]; exact hi) hfi.out)
      clear hfi
      go_wp2
      exact HK.out _ _ HM.out ⟨rfl, ⟨rfl, trivial⟩, rfl, HW.out.step hb⟩
end Go.Proofs.YthhjgndaiimgjaaGreatDoor
end
/-! gnomonref.CheckData: the links' aims; the whole. -/
section
set_option linter.unusedVariables false
set_option linter.unusedSimpArgs false
namespace Go.Proofs.YthhjgndaiimgjaaGreatDoor
open Go.RowKit Gno
set_option maxRecDepth 100000 in
set_option maxHeartbeats 8000000 in
theorem rt12 {d : Dt} {w W : World} {a : Act} {K : Act → World → Prop} (hD : DataAt w w.heap.size d) (hE : dataE d = dE9 d) (hL : LiveR d w [] a W)
    (hK : ∀ a' W', anyI (fun _ => noTo d) (lTos d) = false → LiveR d w [] a' W' → K a' W') :
    (stmR 12).wp Tryz.prog (Exit.then K (QR d w)) a W := by
  obtain ⟨f, rfl, hws⟩ := openR0 hL
  clear hL
  have HW := Lib.hid hws
  have HK := Lib.hid hK
  have HE := Lib.hid hE
  have hsz := hws.size
  have HD := Lib.hid ((hD.next hws.below).2.2.1)
  have hn : d.ln ≤ 9223372036854775807 := HD.out.2.1
  have HLE : Hid ((lTos d).length = d.ln) := Lib.hid (by rw [← HD.out.1]; simp [lNames, lTos])
  have HDN : Hid (∀ w', Below W.heap.size W w' → DataAt w' w'.heap.size d) := Lib.hid (fun w' h => hD.next (hws.step h).below)
  have CZ : Hid (∀ s w' (A : Prop), (Below W.heap.size W w' ∧ A) → Calls Tryz.prog 22 #[.agg #[.slice d.sA d.sn d.sc, .slice d.zA d.zn d.zc, .slice d.lA d.ln d.lc], .string s] w' fun e w2 => e = .returned (.int .i64 (zoneN d s)) ∧ Below W.heap.size W w2) := Lib.hid (fun s w' A h =>
    (zoneN_any d s w' (HDN.out _ h.1)).mono fun _ _ h2 => ⟨h2.1, h.1.trans (h2.2.mono h.1.size)⟩)
  have CL : Hid (∀ s w' (A : Prop), (Below W.heap.size W w' ∧ A) → Calls Tryz.prog 23 #[.agg #[.slice d.sA d.sn d.sc, .slice d.zA d.zn d.zc, .slice d.lA d.ln d.lc], .string s] w' fun e w2 => e = .returned (.int .i64 (linkN d s)) ∧ Below W.heap.size W w2) := Lib.hid (fun s w' A h =>
    (linkN_any d s w' (HDN.out _ h.1)).mono fun _ _ h2 => ⟨h2.1, h.1.trans (h2.2.mono h.1.size)⟩)
  have CF : Hid (∀ s w' (A : Prop), (Below W.heap.size W w' ∧ A) → Calls Tryz.prog 24 #[.agg #[.slice d.sA d.sn d.sc, .slice d.zA d.zn d.zc, .slice d.lA d.ln d.lc], .string s] w' fun e w2 => e = .returned (.int .i64 (leadN d s)) ∧ Below W.heap.size W w2) := Lib.hid (fun s w' A h =>
    (follow_any d s w' (HDN.out _ h.1)).mono fun _ _ h2 => ⟨h2.1, h.1.trans (h2.2.mono h.1.size)⟩)
  clear hws hK hE hD
  conv => arg 2; whnf
  go_wp2
  go_loopw [19] (fun b wr => ∃ i : Nat, i ≤ d.ln ∧ b = .int .i64 i ∧ Hid (anyTo (atI (fun _ => noTo d) (lTos d)) i = false) ∧ Below W.heap.size W wr) (fun b _ => d.ln - (intOf b).toNat)
  case atStart => exact ⟨0, Nat.zero_le _, rfl, Lib.hid rfl, Below.refl _ _⟩
  case round =>
    obtain ⟨i, hi, rfl, hfi, hb⟩ := hrel
    by_cases hit : i < d.ln
    · obtain ⟨b, o, q, hA, hbB, hq, hq1, hq1', hq2⟩ := links_get HD.out hit
      have HQ := Lib.hid hq
      have HA := Lib.hid hA
      have HC : Hid (∀ w1, Below W.heap.size W w1 → w1.cell? ⟨w.heap.size, 0, none⟩ = some (.slice d.sA d.sn d.sc) ∧ w1.cell? ⟨w.heap.size, 1, none⟩ = some (.slice d.zA d.zn d.zc) ∧ w1.cell? ⟨w.heap.size, 2, none⟩ = some (.slice (some ⟨b, o, none⟩) d.ln d.lc) ∧ w1.cell? ⟨b, o + i * 2, none⟩ = some (.string q.name) ∧ w1.cell? ⟨b, o + i * 2 + 1, none⟩ = some (.string q.to)) := Lib.hid (fun w1 h1 =>
        ⟨(HW.out.step h1).cells.1, (HW.out.step h1).cells.2.1, by rw [← HA.out]; exact (HW.out.step h1).cells.2.2, hq2 _ h1⟩)
      rw [hA] at CZ CL CF
      clear hq hq2 hA hq1 hq1'
      obtain ⟨c0, c1, c2, e0, e1⟩ := HC.out _ hb
      have HQT : Hid ((lTos d)[i]? = some q.to) := Lib.hid (by simp [lTos, HQ.out])
      by_cases hz : 0 ≤ zoneN d q.to
      · have g1 : decide (zoneN d q.to < 0) = false := by simp; omega
        have HM := Lib.hid (anyI_no (p := fun _ => noTo d) HQT.out hfi.out (by unfold noTo; rw [zoneN_has, decide_eq_true hz]; rfl))
        clear hz hfi
        have CZ2 : Hid (∀ w', Below W.heap.size W w' → Calls Tryz.prog 22 #[.agg #[.slice d.sA d.sn d.sc, .slice d.zA d.zn d.zc, .slice (some ⟨b, o, none⟩) d.ln d.lc], .string q.to] w' fun e w2 => e = .returned (.int .i64 (zoneN d q.to)) ∧ Below W.heap.size W w2) := Lib.hid (fun w' h => CZ.out q.to w' True ⟨h, trivial⟩)
        go_wp2
        refine wp_region_held_drew (S := (fun w' => Below W.heap.size W w' ∧ w'.cell? ⟨w.heap.size, 0, none⟩ = some (.slice d.sA d.sn d.sc) ∧ w'.cell? ⟨w.heap.size, 1, none⟩ = some (.slice d.zA d.zn d.zc) ∧ w'.cell? ⟨w.heap.size, 2, none⟩ = some (.slice (some ⟨b, o, none⟩) d.ln d.lc) ∧ w'.cell? ⟨b, o + i * 2, none⟩ = some (.string q.name) ∧ w'.cell? ⟨b, o + i * 2 + 1, none⟩ = some (.string q.to))) (by kernel_rfl) ?_ (fun hHeld => ?_)
        · (refine ⟨?_, ?_, ?_, ?_, ?_, ?_⟩ <;> (first | assumption | exact Below.drew (by assumption) | go_keep))
        refine wpAnyH_take (i := 0) (oi := _) (v := ?_) rfl (by kernel_rfl) (by kernel_rfl) (by kernel_rfl) (fun _ _ _ h => h) (Or.inl ⟨by rfl, ?_⟩) (by assumption) ?_
        rotate_left
        · intro w hSw; (try dsimp only at hSw); (go_simp <;> with_reducible rfl)
        simp only [List.getElem_toArray, List.getElem_cons_zero, List.getElem_cons_succ, Act.put, List.setIfInBounds_toArray, List.set_cons_zero, List.set_cons_succ]
        refine wpAnyH_take (i := 1) (oi := _) (v := ?_) rfl (by kernel_rfl) (by kernel_rfl) (by kernel_rfl) (fun _ _ _ h => h) (Or.inl ⟨by rfl, ?_⟩) (by assumption) ?_
        rotate_left
        · intro w hSw; (try dsimp only at hSw); (go_simp <;> with_reducible rfl)
        simp only [List.getElem_toArray, List.getElem_cons_zero, List.getElem_cons_succ, Act.put, List.setIfInBounds_toArray, List.set_cons_zero, List.set_cons_succ]
        refine wpAnyH_take (i := 2) (oi := _) (v := ?_) rfl (by kernel_rfl) (by kernel_rfl) (by kernel_rfl) (fun _ _ _ h => h) (Or.inl ⟨by rfl, ?_⟩) (by assumption) ?_
        rotate_left
        · intro w hSw; (try dsimp only at hSw); (go_simp <;> with_reducible rfl)
        simp only [List.getElem_toArray, List.getElem_cons_zero, List.getElem_cons_succ, Act.put, List.setIfInBounds_toArray, List.set_cons_zero, List.set_cons_succ]
        refine wpAnyH_take (i := 3) (oi := _) (v := ?_) rfl (by kernel_rfl) (by kernel_rfl) (by kernel_rfl) (fun _ _ _ h => h) (Or.inl ⟨by rfl, ?_⟩) (by assumption) ?_
        rotate_left
        · intro w hSw; (try dsimp only at hSw); (go_simp <;> with_reducible rfl)
        simp only [List.getElem_toArray, List.getElem_cons_zero, List.getElem_cons_succ, Act.put, List.setIfInBounds_toArray, List.set_cons_zero, List.set_cons_succ]
        refine wpAnyH_take (i := 4) (oi := _) (v := ?_) rfl (by kernel_rfl) (by kernel_rfl) (by kernel_rfl) (fun _ _ _ h => h) (Or.inl ⟨by rfl, ?_⟩) (by assumption) ?_
        rotate_left
        · intro w hSw; (try dsimp only at hSw); (go_simp <;> with_reducible rfl)
        simp only [List.getElem_toArray, List.getElem_cons_zero, List.getElem_cons_succ, Act.put, List.setIfInBounds_toArray, List.set_cons_zero, List.set_cons_succ]
        refine wpAnyH_take (i := 5) (oi := _) (v := ?_) rfl (by kernel_rfl) (by kernel_rfl) (by kernel_rfl) (fun _ _ _ h => h) (Or.inl ⟨by rfl, ?_⟩) (by assumption) ?_
        rotate_left
        · intro w hSw; (try dsimp only at hSw); (go_simp <;> with_reducible rfl)
        simp only [List.getElem_toArray, List.getElem_cons_zero, List.getElem_cons_succ, Act.put, List.setIfInBounds_toArray, List.set_cons_zero, List.set_cons_succ]
        refine wpAnyH_take (i := 6) (oi := _) (v := ?_) rfl (by kernel_rfl) (by kernel_rfl) (by kernel_rfl) (fun _ _ _ h => h) (Or.inl ⟨by rfl, ?_⟩) (by assumption) ?_
        rotate_left
        · intro w hSw; (try dsimp only at hSw); (go_simp <;> with_reducible rfl)
        simp only [List.getElem_toArray, List.getElem_cons_zero, List.getElem_cons_succ, Act.put, List.setIfInBounds_toArray, List.set_cons_zero, List.set_cons_succ]
        refine wpAnyH_ready (rs := [7]) (by kernel_rfl) (by simp) ?_
        refine AllReadyH.cons (o := _) rfl (fun K hK => ?_) AllReadyH.nil
        simp only [List.getElem_toArray, List.getElem_cons_zero, List.getElem_cons_succ]
        go_simp
        refine (CZ2.out _ hHeld.1).mono ?_
        rintro e w4 ⟨rfl, hb5⟩
        obtain ⟨k0, k1, k2, k3, k4⟩ := HC.out _ hb5
        go_wp2_with fail
        refine hK.out _ _ ?_ (fun hHeld => ?_)
        · (refine ⟨?_, ?_, ?_, ?_, ?_, ?_⟩ <;> (first | assumption | exact Below.drew (by assumption) | go_keep))
        clear hK K
        refine wpAnyH_take (i := 8) (oi := _) (v := ?_) rfl (by kernel_rfl) (by kernel_rfl) (by kernel_rfl) (fun _ _ _ h => h) (Or.inl ⟨by rfl, ?_⟩) (by assumption) ?_
        rotate_left
        · intro w hSw; (try dsimp only at hSw); (go_simp <;> with_reducible rfl)
        simp only [List.getElem_toArray, List.getElem_cons_zero, List.getElem_cons_succ, Act.put, List.setIfInBounds_toArray, List.set_cons_zero, List.set_cons_succ]
        refine wpAnyH_take (i := 9) (oi := _) (v := ?_) rfl (by kernel_rfl) (by kernel_rfl) (by kernel_rfl) (fun _ _ _ h => h) (Or.inl ⟨by rfl, ?_⟩) (by assumption) ?_
        rotate_left
        · intro w hSw; (try dsimp only at hSw); (go_simp <;> with_reducible rfl)
        simp only [List.getElem_toArray, List.getElem_cons_zero, List.getElem_cons_succ, Act.put, List.setIfInBounds_toArray, List.set_cons_zero, List.set_cons_succ]
        refine wpAnyH_take (i := 10) (oi := _) (v := undef) rfl (by kernel_rfl) (by kernel_rfl) (by kernel_rfl) (fun _ _ _ h => h) (Or.inr ⟨by rfl, rfl⟩) (by assumption) ?_
        simp only [List.getElem_toArray, List.getElem_cons_zero, List.getElem_cons_succ, Act.put, List.setIfInBounds_toArray, List.set_cons_zero, List.set_cons_succ]
        refine wpAnyH_take (i := 11) (oi := _) (v := undef) rfl (by kernel_rfl) (by kernel_rfl) (by kernel_rfl) (fun _ _ _ h => h) (Or.inr ⟨by rfl, rfl⟩) (by assumption) ?_
        simp only [List.getElem_toArray, List.getElem_cons_zero, List.getElem_cons_succ, Act.put, List.setIfInBounds_toArray, List.set_cons_zero, List.set_cons_succ]
        refine wpAnyH_take (i := 12) (oi := _) (v := undef) rfl (by kernel_rfl) (by kernel_rfl) (by kernel_rfl) (fun _ _ _ h => h) (Or.inr ⟨by rfl, rfl⟩) (by assumption) ?_
        simp only [List.getElem_toArray, List.getElem_cons_zero, List.getElem_cons_succ, Act.put, List.setIfInBounds_toArray, List.set_cons_zero, List.set_cons_succ]
        refine wpAnyH_take (i := 13) (oi := _) (v := undef) rfl (by kernel_rfl) (by kernel_rfl) (by kernel_rfl) (fun _ _ _ h => h) (Or.inr ⟨by rfl, rfl⟩) (by assumption) ?_
        simp only [List.getElem_toArray, List.getElem_cons_zero, List.getElem_cons_succ, Act.put, List.setIfInBounds_toArray, List.set_cons_zero, List.set_cons_succ]
        refine wpAnyH_take (i := 14) (oi := _) (v := undef) rfl (by kernel_rfl) (by kernel_rfl) (by kernel_rfl) (fun _ _ _ h => h) (Or.inr ⟨by rfl, rfl⟩) (by assumption) ?_
        simp only [List.getElem_toArray, List.getElem_cons_zero, List.getElem_cons_succ, Act.put, List.setIfInBounds_toArray, List.set_cons_zero, List.set_cons_succ]
        refine wpAnyH_take (i := 15) (oi := _) (v := undef) rfl (by kernel_rfl) (by kernel_rfl) (by kernel_rfl) (fun _ _ _ h => h) (Or.inr ⟨by rfl, rfl⟩) (by assumption) ?_
        simp only [List.getElem_toArray, List.getElem_cons_zero, List.getElem_cons_succ, Act.put, List.setIfInBounds_toArray, List.set_cons_zero, List.set_cons_succ]
        refine wpAnyH_take (i := 16) (oi := _) (v := undef) rfl (by kernel_rfl) (by kernel_rfl) (by kernel_rfl) (fun _ _ _ h => h) (Or.inr ⟨by rfl, rfl⟩) (by assumption) ?_
        simp only [List.getElem_toArray, List.getElem_cons_zero, List.getElem_cons_succ, Act.put, List.setIfInBounds_toArray, List.set_cons_zero, List.set_cons_succ]
        refine wpAnyH_take (i := 17) (oi := _) (v := undef) rfl (by kernel_rfl) (by kernel_rfl) (by kernel_rfl) (fun _ _ _ h => h) (Or.inr ⟨by rfl, rfl⟩) (by assumption) ?_
        simp only [List.getElem_toArray, List.getElem_cons_zero, List.getElem_cons_succ, Act.put, List.setIfInBounds_toArray, List.set_cons_zero, List.set_cons_succ]
        refine wpAnyH_take (i := 18) (oi := _) (v := undef) rfl (by kernel_rfl) (by kernel_rfl) (by kernel_rfl) (fun _ _ _ h => h) (Or.inr ⟨by rfl, rfl⟩) (by assumption) ?_
        simp only [List.getElem_toArray, List.getElem_cons_zero, List.getElem_cons_succ, Act.put, List.setIfInBounds_toArray, List.set_cons_zero, List.set_cons_succ]
        refine wpAnyH_take (i := 19) (oi := _) (v := ?_) rfl (by kernel_rfl) (by kernel_rfl) (by kernel_rfl) (fun _ _ _ h => h) (Or.inl ⟨by rfl, ?_⟩) (by assumption) ?_
        rotate_left
        · intro w hSw; (try dsimp only at hSw); (go_simp <;> with_reducible rfl)
        simp only [List.getElem_toArray, List.getElem_cons_zero, List.getElem_cons_succ, Act.put, List.setIfInBounds_toArray, List.set_cons_zero, List.set_cons_succ]
        refine wpAnyH_done (by kernel_rfl) ?_ _
        go_wp2
        go_roundw
        case rel => exact ⟨i + 1, by omega, by go_num, HM, by assumption⟩
        case measure => simp [intOf]; omega
      · have g1 : decide (zoneN d q.to < 0) = true := by simp; omega
        by_cases hl : 0 ≤ linkN d q.to
        · have g2 : decide (linkN d q.to < 0) = false := by simp; omega
          have HM := Lib.hid (anyI_no (p := fun _ => noTo d) HQT.out hfi.out (by unfold noTo; rw [linkN_has, decide_eq_true hl]; simp))
          clear hz hl hfi
          go_wp2
          first | (go_region_held3 (fun w' => Below W.heap.size W w' ∧ w'.cell? ⟨w.heap.size, 0, none⟩ = some (.slice d.sA d.sn d.sc) ∧ w'.cell? ⟨w.heap.size, 1, none⟩ = some (.slice d.zA d.zn d.zc) ∧ w'.cell? ⟨w.heap.size, 2, none⟩ = some (.slice (some ⟨b, o, none⟩) d.ln d.lc) ∧ w'.cell? ⟨b, o + i * 2, none⟩ = some (.string q.name) ∧ w'.cell? ⟨b, o + i * 2 + 1, none⟩ = some (.string q.to))
            (refine ⟨?_, ?_, ?_, ?_, ?_, ?_⟩ <;> (first | assumption | exact Below.drew (by assumption) | go_keep))
            (first
              | (go_at_call 22; refine (CZ.out _ _ _ (by assumption)).mono ?_; rintro e w4 ⟨rfl, hb5⟩; obtain ⟨k0, k1, k2, k3, k4⟩ := HC.out _ hb5)
              | (go_at_call 23; refine (CL.out _ _ _ (by assumption)).mono ?_; rintro e w4 ⟨rfl, hb5⟩; obtain ⟨k0, k1, k2, k3, k4⟩ := HC.out _ hb5)
              | (go_at_call 24; refine (CF.out _ _ _ (by assumption)).mono ?_; rintro e w4 ⟨rfl, hb5⟩; obtain ⟨k0, k1, k2, k3, k4⟩ := HC.out _ hb5))) | fail
          go_wp2
          go_roundw
          case rel => exact ⟨i + 1, by omega, by go_num, HM, by assumption⟩
          case measure => simp [intOf]; omega
        · have g2 : decide (linkN d q.to < 0) = true := by simp; omega
          have HM : Hid (dataE d = 4) := Lib.hid (by
            rw [HE.out]; unfold dE9
            rw [if_pos (anyI_yes HQT.out (by unfold noTo; rw [zoneN_has, linkN_has, decide_eq_false hz, decide_eq_false hl]; rfl))])
          clear hz hl hfi
          go_wp2
          first | (go_region_held3 (fun w' => Below W.heap.size W w' ∧ w'.cell? ⟨w.heap.size, 0, none⟩ = some (.slice d.sA d.sn d.sc) ∧ w'.cell? ⟨w.heap.size, 1, none⟩ = some (.slice d.zA d.zn d.zc) ∧ w'.cell? ⟨w.heap.size, 2, none⟩ = some (.slice (some ⟨b, o, none⟩) d.ln d.lc) ∧ w'.cell? ⟨b, o + i * 2, none⟩ = some (.string q.name) ∧ w'.cell? ⟨b, o + i * 2 + 1, none⟩ = some (.string q.to))
            (refine ⟨?_, ?_, ?_, ?_, ?_, ?_⟩ <;> (first | assumption | exact Below.drew (by assumption) | go_keep))
            (first
              | (go_at_call 22; refine (CZ.out _ _ _ (by assumption)).mono ?_; rintro e w4 ⟨rfl, hb5⟩; obtain ⟨k0, k1, k2, k3, k4⟩ := HC.out _ hb5)
              | (go_at_call 23; refine (CL.out _ _ _ (by assumption)).mono ?_; rintro e w4 ⟨rfl, hb5⟩; obtain ⟨k0, k1, k2, k3, k4⟩ := HC.out _ hb5)
              | (go_at_call 24; refine (CF.out _ _ _ (by assumption)).mono ?_; rintro e w4 ⟨rfl, hb5⟩; obtain ⟨k0, k1, k2, k3, k4⟩ := HC.out _ hb5))) | fail
          go_wp2
          go_ret
          exact ⟨ret_int HM.out.symm, (HW.out.step (by assumption)).below⟩
    · have HM := Lib.hid (anyI_end (by rw [HLE.out]; omega) (by rw [HLE.out]; exact hi) hfi.out)
      obtain ⟨c0, c1, c2⟩ := (HW.out.step hb).cells
      clear hfi
      go_wp2
      exact HK.out _ _ HM.out ⟨rfl, ⟨rfl, trivial⟩, rfl, HW.out.step hb⟩
set_option maxRecDepth 100000 in
set_option maxHeartbeats 8000000 in
theorem rt13 {d : Dt} {w W : World} {a : Act} {K : Act → World → Prop} (hD : DataAt w w.heap.size d) (hE : dataE d = dE10 d) (hL : LiveR d w [] a W)
    (hK : ∀ a' W', anyI (fun _ => noLead d) (lNames d) = false → LiveR d w [] a' W' → K a' W') :
    (stmR 13).wp Tryz.prog (Exit.then K (QR d w)) a W := by
  obtain ⟨f, rfl, hws⟩ := openR0 hL
  clear hL
  have HW := Lib.hid hws
  have HK := Lib.hid hK
  have HE := Lib.hid hE
  have hsz := hws.size
  have HD := Lib.hid ((hD.next hws.below).2.2.1)
  have hn : d.ln ≤ 9223372036854775807 := HD.out.2.1
  have HLE : Hid ((lNames d).length = d.ln) := Lib.hid (by rw [← HD.out.1]; simp [lNames, lTos])
  have HDN : Hid (∀ w', Below W.heap.size W w' → DataAt w' w'.heap.size d) := Lib.hid (fun w' h => hD.next (hws.step h).below)
  have CZ : Hid (∀ s w' (A : Prop), (Below W.heap.size W w' ∧ A) → Calls Tryz.prog 22 #[.agg #[.slice d.sA d.sn d.sc, .slice d.zA d.zn d.zc, .slice d.lA d.ln d.lc], .string s] w' fun e w2 => e = .returned (.int .i64 (zoneN d s)) ∧ Below W.heap.size W w2) := Lib.hid (fun s w' A h =>
    (zoneN_any d s w' (HDN.out _ h.1)).mono fun _ _ h2 => ⟨h2.1, h.1.trans (h2.2.mono h.1.size)⟩)
  have CL : Hid (∀ s w' (A : Prop), (Below W.heap.size W w' ∧ A) → Calls Tryz.prog 23 #[.agg #[.slice d.sA d.sn d.sc, .slice d.zA d.zn d.zc, .slice d.lA d.ln d.lc], .string s] w' fun e w2 => e = .returned (.int .i64 (linkN d s)) ∧ Below W.heap.size W w2) := Lib.hid (fun s w' A h =>
    (linkN_any d s w' (HDN.out _ h.1)).mono fun _ _ h2 => ⟨h2.1, h.1.trans (h2.2.mono h.1.size)⟩)
  have CF : Hid (∀ s w' (A : Prop), (Below W.heap.size W w' ∧ A) → Calls Tryz.prog 24 #[.agg #[.slice d.sA d.sn d.sc, .slice d.zA d.zn d.zc, .slice d.lA d.ln d.lc], .string s] w' fun e w2 => e = .returned (.int .i64 (leadN d s)) ∧ Below W.heap.size W w2) := Lib.hid (fun s w' A h =>
    (follow_any d s w' (HDN.out _ h.1)).mono fun _ _ h2 => ⟨h2.1, h.1.trans (h2.2.mono h.1.size)⟩)
  clear hws hK hE hD
  conv => arg 2; whnf
  go_wp2
  go_loopw [20] (fun b wr => ∃ i : Nat, i ≤ d.ln ∧ b = .int .i64 i ∧ Hid (anyTo (atI (fun _ => noLead d) (lNames d)) i = false) ∧ Below W.heap.size W wr) (fun b _ => d.ln - (intOf b).toNat)
  case atStart => exact ⟨0, Nat.zero_le _, rfl, Lib.hid rfl, Below.refl _ _⟩
  case round =>
    obtain ⟨i, hi, rfl, hfi, hb⟩ := hrel
    by_cases hit : i < d.ln
    · obtain ⟨b, o, q, hA, hbB, hq, hq1, hq1', hq2⟩ := links_get HD.out hit
      have HQ := Lib.hid hq
      have HA := Lib.hid hA
      have HC : Hid (∀ w1, Below W.heap.size W w1 → w1.cell? ⟨w.heap.size, 0, none⟩ = some (.slice d.sA d.sn d.sc) ∧ w1.cell? ⟨w.heap.size, 1, none⟩ = some (.slice d.zA d.zn d.zc) ∧ w1.cell? ⟨w.heap.size, 2, none⟩ = some (.slice (some ⟨b, o, none⟩) d.ln d.lc) ∧ w1.cell? ⟨b, o + i * 2, none⟩ = some (.string q.name) ∧ w1.cell? ⟨b, o + i * 2 + 1, none⟩ = some (.string q.to)) := Lib.hid (fun w1 h1 =>
        ⟨(HW.out.step h1).cells.1, (HW.out.step h1).cells.2.1, by rw [← HA.out]; exact (HW.out.step h1).cells.2.2, hq2 _ h1⟩)
      rw [hA] at CZ CL CF
      clear hq hq2 hA hq1 hq1'
      obtain ⟨c0, c1, c2, e0, e1⟩ := HC.out _ hb
      have HQT : Hid ((lNames d)[i]? = some q.name) := Lib.hid (by simp [lNames, HQ.out])
      by_cases hz : leadN d q.name < 0
      · have g1 : decide (leadN d q.name < 0) = true := by simpa using hz
        have HM : Hid (dataE d = 7) := Lib.hid (by
          rw [HE.out]; unfold dE10
          rw [if_pos (anyI_yes HQT.out (by unfold noLead; exact decide_eq_true hz))])
        clear hz hfi
        go_wp2
        first | (go_region_held3 (fun w' => Below W.heap.size W w' ∧ w'.cell? ⟨w.heap.size, 0, none⟩ = some (.slice d.sA d.sn d.sc) ∧ w'.cell? ⟨w.heap.size, 1, none⟩ = some (.slice d.zA d.zn d.zc) ∧ w'.cell? ⟨w.heap.size, 2, none⟩ = some (.slice (some ⟨b, o, none⟩) d.ln d.lc) ∧ w'.cell? ⟨b, o + i * 2, none⟩ = some (.string q.name) ∧ w'.cell? ⟨b, o + i * 2 + 1, none⟩ = some (.string q.to))
          (refine ⟨?_, ?_, ?_, ?_, ?_, ?_⟩ <;> (first | assumption | exact Below.drew (by assumption) | go_keep))
          (first
            | (go_at_call 22; refine (CZ.out _ _ _ (by assumption)).mono ?_; rintro e w4 ⟨rfl, hb5⟩; obtain ⟨k0, k1, k2, k3, k4⟩ := HC.out _ hb5)
            | (go_at_call 23; refine (CL.out _ _ _ (by assumption)).mono ?_; rintro e w4 ⟨rfl, hb5⟩; obtain ⟨k0, k1, k2, k3, k4⟩ := HC.out _ hb5)
            | (go_at_call 24; refine (CF.out _ _ _ (by assumption)).mono ?_; rintro e w4 ⟨rfl, hb5⟩; obtain ⟨k0, k1, k2, k3, k4⟩ := HC.out _ hb5))) | fail
        go_wp2
        go_ret
        exact ⟨ret_int HM.out.symm, (HW.out.step (by assumption)).below⟩
      · have g1 : decide (leadN d q.name < 0) = false := by simpa using hz
        have HM := Lib.hid (anyI_no (p := fun _ => noLead d) HQT.out hfi.out (by unfold noLead; exact decide_eq_false hz))
        clear hz hfi
        go_wp2
        first | (go_region_held3 (fun w' => Below W.heap.size W w' ∧ w'.cell? ⟨w.heap.size, 0, none⟩ = some (.slice d.sA d.sn d.sc) ∧ w'.cell? ⟨w.heap.size, 1, none⟩ = some (.slice d.zA d.zn d.zc) ∧ w'.cell? ⟨w.heap.size, 2, none⟩ = some (.slice (some ⟨b, o, none⟩) d.ln d.lc) ∧ w'.cell? ⟨b, o + i * 2, none⟩ = some (.string q.name) ∧ w'.cell? ⟨b, o + i * 2 + 1, none⟩ = some (.string q.to))
          (refine ⟨?_, ?_, ?_, ?_, ?_, ?_⟩ <;> (first | assumption | exact Below.drew (by assumption) | go_keep))
          (first
            | (go_at_call 22; refine (CZ.out _ _ _ (by assumption)).mono ?_; rintro e w4 ⟨rfl, hb5⟩; obtain ⟨k0, k1, k2, k3, k4⟩ := HC.out _ hb5)
            | (go_at_call 23; refine (CL.out _ _ _ (by assumption)).mono ?_; rintro e w4 ⟨rfl, hb5⟩; obtain ⟨k0, k1, k2, k3, k4⟩ := HC.out _ hb5)
            | (go_at_call 24; refine (CF.out _ _ _ (by assumption)).mono ?_; rintro e w4 ⟨rfl, hb5⟩; obtain ⟨k0, k1, k2, k3, k4⟩ := HC.out _ hb5))) | fail
        go_wp2
        go_roundw
        case rel => exact ⟨i + 1, by omega, by go_num, HM, by assumption⟩
        case measure => simp [intOf]; omega
    · have HM := Lib.hid (anyI_end (by rw [HLE.out]; omega) (by rw [HLE.out]; exact hi) hfi.out)
      obtain ⟨c0, c1, c2⟩ := (HW.out.step hb).cells
      clear hfi
      go_wp2
      exact HK.out _ _ HM.out ⟨rfl, ⟨rfl, trivial⟩, rfl, HW.out.step hb⟩
end Go.Proofs.YthhjgndaiimgjaaGreatDoor
end
/-! gnomonref.CheckData, whole. -/
section
set_option linter.unusedVariables false
set_option linter.unusedSimpArgs false
namespace Go.Proofs.YthhjgndaiimgjaaGreatDoor
open Go.RowKit Gno
theorem start_wr (d : Dt) (w : World) : WR d w (w.alloc (Dobj d)) :=
  ⟨(Below.refl _ _).alloc (Nat.le_refl _) _, World.alloc_heap_new w _, by simp⟩
theorem own_below {w w' : World} {B : Nat} {e : TypeId} {sz : Nat} {v : Value} {n : Nat} {xs : List Value} (h : w.ownsRow B e sz v n xs) (hb : Below w.heap.size w w') : w'.ownsRow B e sz v n xs := by
  refine ⟨h.1, ?_⟩
  rcases h.2 with h2 | ⟨g, cap, cur, h1, h2, h3, h4⟩
  · exact .inl h2
  · exact .inr ⟨g, cap, cur, h1, h2, (hb.block _ (Array.getElem?_eq_some_iff.1 h3).1).trans h3, h4⟩
theorem own_far {w w' : World} {B B' : Nat} {e e' : TypeId} {sz sz' : Nat} {v v' : Value} {n n' : Nat} {xs xs' : List Value} (h : w.ownsRow B e sz v n xs) (h' : w'.ownsRow B' e' sz' v' n' xs') (hB : w.heap.size ≤ B') : Apart v v' := by
  intro k h1 h2
  have := (h.lt k h1).2
  have := (h'.lt k h2).1
  omega
set_option maxRecDepth 100000 in
set_option maxHeartbeats 8000000 in
theorem checkData_any (d : Dt) (w : World) (hD : DataAt w w.heap.size d) :
    Calls Tryz.prog 6 #[d.val] w fun e w' => e = .returned (.int .i64 (dataE d)) ∧ Below w.heap.size w w' := by
  unfold Dt.val
  have HD := Lib.hid hD
  clear hD
  go_enter Tryz.func6, Tryz.ntmps6
  refine wp_seq_k fun K0 hK0 => ?_
  have HK0 := Lib.hid hK0
  clear hK0
  go_wp2
  refine HK0.out _ _ ?_
  clear HK0
  refine wp_seq_k fun K hK => rt1 ?hl fun a1 W1 hm hL1 => hK _ _ ?_
  case hl => exact ⟨rfl, ⟨rfl, trivial⟩, rfl, start_wr d w⟩
  clear hK
  have hE1 : dataE d = dE1 d := by unfold dataE; rw [if_neg (by rw [hm]; simp)]
  have hle := manyD_le hm
  refine wp_seq_k fun K hK => rt2 hL1 fun a2 hL2 => hK _ _ ?_
  clear hL1 hK
  refine wp_seq_k fun K hK => rt3 HD.out hm hE1 hL2 rfl fun a3 W3 v3 hm3 hL3 ho3 hb3 => hK _ _ ?_
  have hE2 : dataE d = dE2 d := by rw [hE1]; unfold dE1; rw [if_neg (by rw [hm3]; simp)]
  have hs2 := hL2.ws.size
  clear hL2 hK
  refine wp_seq_k fun K hK => rt4 HD.out hm hE2 hL3 rfl fun a4 W4 v4 hm4 hL4 ho4 hb4 => hK _ _ ?_
  have hE3 : dataE d = dE3 d := by rw [hE2]; unfold dE2; rw [if_neg (by rw [hm4]; simp)]
  have hs3 := hL3.ws.size
  clear hL3 hK
  have s3 := (own_SlB ho3 (by unfold maxLen; omega)).below hb4 (Nat.le_refl _)
  have s4 := own_SlB ho4 (by unfold maxLen; omega)
  refine wp_seq_k fun K hK => rt5 hm hL4 (s3.more hb4.size) s4 fun a5 W5 v7 hL5 ho7 hb5 => hK _ _ ?_
  clear hL4 hK
  have ho4' := own_below ho4 hb5
  have hap : Apart v4 v7 := own_far ho4 ho7 (Nat.le_refl _)
  have s3 := s3.below (hb5.mono hb4.size) (Nat.le_refl _)
  refine wp_seq_k fun K hK => rt6 HD.out hm hL5 ho4' ho7 hap hs3 hb4.size hb5.size fun a6 W6 v4 v7 hL6 s4 s7 hb6 => hK _ _ ?_
  clear hL5 hK hap ho4' ho7 ho4 ho3
  have s3 := s3.below hb6 (Nat.le_refl _)
  refine wp_seq_k fun K hK => rt7 HD.out (by omega) hE3 hL6 s7 fun a7 hm7 hL7 => hK _ _ ?_
  have hE4 : dataE d = dE4 d := by rw [hE3]; unfold dE3; rw [if_neg (by rw [hm7]; simp)]
  clear hL6 hK s7
  refine wp_seq_k fun K hK => rt8 hE4 hL7 (s3.more (by have := hb4.size; have := hb5.size; have := hb6.size; omega)) s4 fun a8 W8 hm8 hL8 => hK _ _ ?_
  have hE5 : dataE d = dE5 d := by rw [hE4]; unfold dE4; rw [if_neg (by rw [hm8]; simp)]
  clear hL7 hK s4 s3
  refine wp_seq_k fun K hK => rt9 HD.out hE5 hL8 fun a9 W9 hm9 hL9 => hK _ _ ?_
  have hE6 : dataE d = dE6 d := by rw [hE5]; unfold dE5; rw [if_neg (by rw [hm9]; simp)]
  clear hL8 hK
  refine wp_seq_k fun K hK => rt10 HD.out hm hE6 hL9 fun a10 W10 hm10 hL10 => hK _ _ ?_
  have hE8 : dataE d = dE8 d := by rw [hE6]; exact dE6_good hm10
  clear hL9 hK
  refine wp_seq_k fun K hK => rt11 HD.out hE8 hL10 fun a11 W11 hm11 hL11 => hK _ _ ?_
  have hE9 : dataE d = dE9 d := by rw [hE8]; unfold dE8; rw [if_neg (by rw [hm11]; simp)]
  clear hL10 hK
  refine wp_seq_k fun K hK => rt12 HD.out hE9 hL11 fun a12 W12 hm12 hL12 => hK _ _ ?_
  have hE10 : dataE d = dE10 d := by rw [hE9]; unfold dE9; rw [if_neg (by rw [hm12]; simp)]
  clear hL11 hK
  refine wp_seq_k fun K hK => rt13 HD.out hE10 hL12 fun a13 W13 hm13 hL13 => hK _ _ ?_
  have hE0 : dataE d = 0 := by rw [hE10]; unfold dE10; rw [if_neg (by rw [hm13]; simp)]
  clear hL12 hK
  obtain ⟨f, rfl, hws⟩ := openR0 hL13
  have HW := Lib.hid hws
  have HE := Lib.hid hE0
  clear hL13 hws hE0 hE1 hE2 hE3 hE4 hE5 hE6 hE8 hE9 hE10 hm hm3 hm4 hm7 hm8 hm9 hm10 hm11 hm12 hm13 hle
  go_wp2
  go_ret
  exact ⟨ret_int HE.out.symm, HW.out.below⟩
end Go.Proofs.YthhjgndaiimgjaaGreatDoor
end
/-! data.Zone and gnomonref.ZoneOf. -/
section
set_option linter.unusedVariables false
set_option linter.unusedSimpArgs false
namespace Gno
open Go
noncomputable def zoneK (d : Dt) (nm : ByteArray) : Int := if dataE d ≠ 0 then 0 else if leadN d nm < 0 then 0 else leadN d nm
noncomputable def zoneEr (d : Dt) (nm : ByteArray) : Int := if dataE d ≠ 0 then dataE d else if leadN d nm < 0 then 4 else 0
end Gno
namespace Go.Proofs.YthhjgndaiimgjaaGreatDoor
open Go.RowKit Gno
theorem MaxAt.next {w W : World} (h : MaxAt w w.heap.size) (hb : Below w.heap.size w W) : MaxAt W W.heap.size := by
  have h1 := h.below hb (Nat.le_refl _)
  exact ⟨by have := h1.1; have := hb.size; omega, h1.2⟩
end Go.Proofs.YthhjgndaiimgjaaGreatDoor
end
/-! Plain: right data: where names and links lead; one link more. -/
section
set_option linter.unusedVariables false
set_option linter.unusedSimpArgs false
namespace Gno
open Go
/-- no two of a list are the same. -/
def Dist (l : List ByteArray) : Prop := ∀ (i j : Nat) (a b : ByteArray), i < j → l[i]? = some a → l[j]? = some b → same a b = false
theorem dist_of {l : List ByteArray} (h : dup l = false) : Dist l := fun i j a b hij ha hb => by
  cases hs : same a b
  · rfl
  · have : dup l = true := dup_yes (i := j) (m := j) (v := b) hb (Nat.le_refl _) (by
      unfold amongTo
      rw [List.any_eq_true]
      refine ⟨a, ?_, by rw [same_comm]; exact hs⟩
      exact List.mem_of_getElem? (i := i) (by rw [List.getElem?_take_of_lt hij]; exact ha))
    rw [h] at this; cases this
structure Right (d : Dt) : Prop where
  many : manyD d = false
  dist : Dist (zNames d ++ lNames d)
  noto : ∀ l ∈ d.ls, noTo d l.to = false
  lead : ∀ l ∈ d.ls, 0 ≤ leadN d l.name
theorem right_of {d : Dt} (h : dataE d = 0) : Right d := by
  have h0 : manyD d = false := by
    cases e : manyD d
    · rfl
    · unfold dataE at h; rw [if_pos e] at h; exact absurd h (by decide)
  have h1 : dE1 d = 0 := by unfold dataE at h; rwa [if_neg (by rw [h0]; simp)] at h
  have h2 : dE2 d = 0 := by
    unfold dE1 at h1; split at h1
    · exact absurd h1 (by decide)
    · exact h1
  have h3 : dE3 d = 0 := by
    unfold dE2 at h2; split at h2
    · exact absurd h2 (by decide)
    · exact h2
  have h4 : dE4 d = 0 := by
    unfold dE3 at h3; split at h3
    · exact absurd h3 (by decide)
    · exact h3
  have hd : (dup (sNames d) || dup (zNames d ++ lNames d)) = false := by
    cases e : (dup (sNames d) || dup (zNames d ++ lNames d))
    · rfl
    · unfold dE4 at h4; rw [if_pos e] at h4; exact absurd h4 (by decide)
  have h5 : dE5 d = 0 := by unfold dE4 at h4; rwa [if_neg (by rw [hd]; simp)] at h4
  have h6 : dE6 d = 0 := by
    unfold dE5 at h5; split at h5
    · rename_i q; exact absurd h5 q
    · exact h5
  have h7 : dE7 d = 0 := by
    unfold dE6 at h6; split at h6
    · exact absurd h6 (by decide)
    · exact h6
  have h8 : dE8 d = 0 := by
    unfold dE7 at h7; split at h7
    · exact absurd h7 (by decide)
    · exact h7
  have h9 : dE9 d = 0 := by
    unfold dE8 at h8; split at h8
    · exact absurd h8 (by decide)
    · exact h8
  have ht : anyI (fun _ => noTo d) (lTos d) = false := by
    cases e : anyI (fun _ => noTo d) (lTos d)
    · rfl
    · unfold dE9 at h9; rw [if_pos e] at h9; exact absurd h9 (by decide)
  have h10 : dE10 d = 0 := by unfold dE9 at h9; rwa [if_neg (by rw [ht]; simp)] at h9
  have hl : anyI (fun _ => noLead d) (lNames d) = false := by
    cases e : anyI (fun _ => noLead d) (lNames d)
    · rfl
    · unfold dE10 at h10; rw [if_pos e] at h10; exact absurd h10 (by decide)
  rw [anyI_any] at ht hl
  rw [Bool.or_eq_false_iff] at hd
  refine ⟨h0, dist_of hd.2, fun l hl' => ?_, fun l hl' => ?_⟩
  · have := List.any_eq_false.1 ht l.to (List.mem_map.2 ⟨l, hl', rfl⟩)
    simpa using this
  · have := List.any_eq_false.1 hl l.name (List.mem_map.2 ⟨l, hl', rfl⟩)
    unfold noLead at this
    simpa using this
theorem Right.zl {d : Dt} (h : Right d) {i j : Nat} {a : Zn} {b : Lk} (ha : d.zs[i]? = some a) (hb : d.ls[j]? = some b) : same a.name b.name = false := by
  have hi := (List.getElem?_eq_some_iff.1 ha).1
  refine h.dist i (d.zs.length + j) _ _ (by omega) ?_ ?_
  · rw [List.getElem?_append_left (by simp [zNames]; exact hi)]; simp [zNames, ha]
  · rw [List.getElem?_append_right (by simp [zNames])]; simp [zNames, lNames, hb]
/-- one link more. -/
def moreD (d : Dt) (A : Option Addr) (c : Nat) (x : Lk) : Dt := { d with lA := A, ln := d.ln + 1, lc := c, ls := d.ls ++ [x] }
end Gno
end
/-! Plain: what Check says of data hangs on what they hold, not on where they lie. -/
section
set_option linter.unusedVariables false
set_option linter.unusedSimpArgs false
namespace Gno
open Go Go.RowKit Go.Proofs.YthhjgndaiimgjaaGreatDoor
def stripS (s : St) : St := ⟨s.name, none, s.n, 0, s.rs⟩
def stripZ (z : Zn) : Zn := ⟨z.name, none, z.n, 0, z.es⟩
/-- data, wherever they lie. -/
def strip (d : Dt) : Dt := ⟨none, d.sn, 0, d.ss.map stripS, none, d.zn, 0, d.zs.map stripZ, none, d.ln, 0, d.ls⟩
theorem setsE_strip : ∀ l : List St, setsE (l.map stripS) = setsE l
  | [] => rfl
  | a :: t => by
    rw [List.map_cons]
    unfold setsE
    rw [setsE_strip t]
    rfl
theorem erasL_strip (l : List Zn) : erasL (l.map stripZ) = erasL l := by
  unfold erasL
  rw [List.flatMap_map]
  rfl
theorem sNames_strip (d : Dt) : sNames (strip d) = sNames d := by unfold sNames strip; simp only [List.map_map]; rfl
theorem zNames_strip (d : Dt) : zNames (strip d) = zNames d := by unfold zNames strip; simp only [List.map_map]; rfl
theorem lNames_strip (d : Dt) : lNames (strip d) = lNames d := rfl
theorem lTos_strip (d : Dt) : lTos (strip d) = lTos d := rfl
theorem any_strip {α : Type} (p : α → Bool) (g : α → α) (h : ∀ x, p (g x) = p x) (l : List α) : anyI (fun _ => p) (l.map g) = anyI (fun _ => p) l := by
  rw [anyI_any, anyI_any, List.any_map]
  congr 1
  funext x
  exact h x
theorem fst_strip (nm : ByteArray) : ∀ (l : List Zn) (k : Int), fst (isZone nm) (l.map stripZ) k = fst (isZone nm) l k
  | [], k => rfl
  | a :: t, k => by
    rw [List.map_cons]
    unfold fst
    rw [fst_strip nm t (k + 1)]
    rfl
theorem zoneN_strip (d : Dt) (nm : ByteArray) : zoneN (strip d) nm = zoneN d nm := fst_strip nm d.zs 0
theorem linkN_strip (d : Dt) (nm : ByteArray) : linkN (strip d) nm = linkN d nm := rfl
theorem leadT_strip (d : Dt) : ∀ (f : Nat) (nm : ByteArray), leadT (strip d) f nm = leadT d f nm
  | 0, _ => rfl
  | f + 1, nm => by
    unfold leadT
    rw [zoneN_strip, linkN_strip]
    show (if 0 ≤ zoneN d nm then zoneN d nm else match d.ls[(linkN d nm).toNat]? with | some l => if linkN d nm < 0 then -1 else leadT (strip d) f l.to | none => -1) = _
    simp only [leadT_strip d f]
    rfl
theorem leadN_strip (d : Dt) (nm : ByteArray) : leadN (strip d) nm = leadN d nm := leadT_strip d _ nm
/-- what Check says of stripped data is what it says of them. -/
theorem dataE_strip (d : Dt) : dataE (strip d) = dataE d := by
  have n1 : allNames (strip d) = allNames d := by unfold allNames; rw [sNames_strip, zNames_strip, lNames_strip, lTos_strip]
  have e1 : anyI (fun _ => manyRules) (strip d).ss = anyI (fun _ => manyRules) d.ss := any_strip manyRules stripS (fun _ => rfl) d.ss
  have e2 : anyI (fun _ => manyEras) (strip d).zs = anyI (fun _ => manyEras) d.zs := any_strip manyEras stripZ (fun _ => rfl) d.zs
  have e3 : anyI (fun _ => badEnd) (strip d).zs = anyI (fun _ => badEnd) d.zs := any_strip badEnd stripZ (fun _ => rfl) d.zs
  have e4 : setsE (strip d).ss = setsE d.ss := setsE_strip d.ss
  have e5 : erasL (strip d).zs = erasL d.zs := erasL_strip d.zs
  have e6 : badE (strip d) = badE d := rfl
  have e7 : (fun _ : Nat => noTo (strip d)) = fun _ => noTo d := by funext _ s; unfold noTo; rw [zNames_strip, lNames_strip]
  have e8 : (fun _ : Nat => noLead (strip d)) = fun _ => noLead d := by funext _ s; unfold noLead; rw [leadN_strip]
  have e9 : manyD (strip d) = manyD d := rfl
  unfold dataE dE1 dE2 dE3 dE4 dE5 dE6 dE7 dE8 dE9 dE10
  rw [n1, e1, e2, e3, e4, e5, e6, e7, e8, e9, sNames_strip, zNames_strip, lNames_strip, lTos_strip]
/-! what data hold -/
def rlOf (r : List Int × Bt) : Rl := ⟨r.1.getD 0 0, r.1.getD 1 0, r.1.getD 2 0, r.1.getD 3 0, r.1.getD 4 0, r.1.getD 5 0, r.1.getD 6 0, r.1.getD 7 0, Bs r.2⟩
def erOf (x : List Int × Bt × Int) : Er := ⟨x.1.getD 0 0, x.1.getD 1 0, x.1.getD 2 0, Bs x.2.1, x.2.2⟩
def stOf (s : Bt × List (List Int × Bt)) : St := ⟨Bs s.1, none, s.2.length, 0, s.2.map rlOf⟩
def znOf (z : Bt × List (List Int × Bt × Int)) : Zn := ⟨Bs z.1, none, z.2.length, 0, z.2.map erOf⟩
def lkOf (l : Bt × Bt) : Lk := ⟨Bs l.1, Bs l.2⟩
/-- data of what they hold. -/
def dtOf (c : Cn) : Dt := ⟨none, c.ss.length, 0, c.ss.map stOf, none, c.zs.length, 0, c.zs.map znOf, none, c.ls.length, 0, c.ls.map lkOf⟩
/-- the counts are as the lists say. -/
structure Cons (d : Dt) : Prop where
  sn : d.ss.length = d.sn
  zn : d.zs.length = d.zn
  ln : d.ls.length = d.ln
  rs : ∀ s ∈ d.ss, s.rs.length = s.n
  es : ∀ z ∈ d.zs, z.es.length = z.n
theorem rl_cn (r : Rl) : rlOf (cnR r) = r := rfl
theorem er_cn (x : Er) : erOf (cnE x) = x := rfl
theorem lk_cn (l : Lk) : lkOf (cnL l) = l := rfl
theorem map_back {α β : Type} {f : α → β} {g : β → α} (h : ∀ x, g (f x) = x) (l : List α) : (l.map f).map g = l := by
  rw [List.map_map]
  conv => rhs; rw [← List.map_id l]
  exact List.map_congr_left fun x _ => h x
theorem dt_cn {d : Dt} (h : Cons d) : dtOf (cnOf d) = strip d := by
  have hs : (d.ss.map cnS).map stOf = d.ss.map stripS := by
    rw [List.map_map]
    refine List.map_congr_left fun s hs => ?_
    show stOf (cnS s) = stripS s
    unfold stOf cnS stripS
    simp only [List.length_map, map_back rl_cn, Bs_list, h.rs s hs]
  have hz : (d.zs.map cnZ).map znOf = d.zs.map stripZ := by
    rw [List.map_map]
    refine List.map_congr_left fun s hs => ?_
    show znOf (cnZ s) = stripZ s
    unfold znOf cnZ stripZ
    simp only [List.length_map, map_back er_cn, Bs_list, h.es s hs]
  have hl : (d.ls.map cnL).map lkOf = d.ls := map_back lk_cn d.ls
  unfold dtOf cnOf strip
  simp only [List.length_map, hs, hz, hl, h.sn, h.zn, h.ln]
/-- right, by what data hold. -/
def Formed (c : Cn) : Prop := (∀ s ∈ c.ss, ∀ r ∈ s.2, r.1.length = 8) ∧ ∀ z ∈ c.zs, ∀ x ∈ z.2, x.1.length = 3
def okC (c : Cn) : Prop := Formed c ∧ dataE (dtOf c) = 0
theorem formed_cn (d : Dt) : Formed (cnOf d) := by
  refine ⟨fun s hs r hr => ?_, fun z hz x hx => ?_⟩
  · obtain ⟨s', _, rfl⟩ := List.mem_map.1 hs
    obtain ⟨r', _, rfl⟩ := List.mem_map.1 hr
    rfl
  · obtain ⟨z', _, rfl⟩ := List.mem_map.1 hz
    obtain ⟨x', _, rfl⟩ := List.mem_map.1 hx
    rfl
theorem okC_of {d : Dt} (h : Cons d) : okC (cnOf d) ↔ dataE d = 0 := by
  unfold okC
  rw [dt_cn h, dataE_strip]
  exact ⟨fun q => q.2, fun q => ⟨formed_cn d, q⟩⟩
end Gno
end
