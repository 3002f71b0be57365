/- Parts of a proof, laid together. -/
import Derived.StillTailTactics
import Derived.Test.YtbbbeldbhlehnaaGreatMUsesTellsRow28
import Derived.Test.YtbbbeldbhlehnaaGreatMUsesTellsRow11
set_option linter.unusedSimpArgs false
set_option linter.unusedVariables false
/-! gnomonref.CheckData: the list of all names. -/
section
set_option linter.unusedVariables false
set_option linter.unusedSimpArgs false
namespace Go.Proofs.YtbbbeldbhlehnaaGreat
open Go.RowKit Gno
/-- the slice of texts that another holds, appended to an own one. -/
theorem wpList_appS {P : Program} {ops : Array Oper} {rest : List Oper} {o : Oper} {a : Act} {Q : Exit → Act → World → Prop} {w : World} (hgd : o.guard = none) (s x : Operand) (t : TypeId)
    (ho : o.op = .call { callee := .builtin .append, args := #[s, x], argTypes := #[t, t] })
    (base : Nat) (e : TypeId) (z : Value) (bytes : Nat) (ht : P.underlying t = some (.slice e)) (hinf : (P.info? e).map (fun i => (i.zero, i.size, i.bytes)) = some (some z, 1, bytes))
    (hzs : z.cells.size = 1)
    (v : Value) (n : Nat) (xs : List Value) (hs : a.eval s = v) (hown : w.ownsRow base e 1 v n xs)
    (A : Option Addr) (m c : Nat) (l : List ByteArray) (hx : a.eval x = .slice A m c) (B2 : Nat) (hS : StrsAt w B2 A m l) (hN : A = none → m = 0 ∧ c = 0)
    (h63 : n + m ≤ maxLen) (hbytes : (n + m) * bytes ≤ 140737488355328) (hbase : base ≤ w.heap.size)
    (h : ∀ v' w', w'.ownsRow base e 1 v' (n + m) (xs ++ strs l) → w.grownBy w' v.ownBlock → wpList P ops Q rest (a.put o.dst v') w') : wpList P ops Q (o :: rest) a w := by
  obtain ⟨i, hi, hz, hsize, hby⟩ := info_parts hinf
  cases A with
  | none =>
    obtain ⟨rfl, rfl⟩ := hN rfl
    have hl : l = [] := List.length_eq_zero_iff.1 hS.1
    subst hl
    refine wpList_append_own_none hgd s x t ho base e i 1 ht hi v n xs hs hown hx ?_
    have := h v w (by simpa [strs] using hown) (World.grownBy.refl w _)
    exact this
  | some ad =>
    refine wpList_append_own w hgd s x t ho base e i z 1 bytes ht hi hz hsize hby hzs (by decide) v n xs hs hown ad m c (strs l) hx (by simp [strs, hS.1]) (strs_cells hS) (by intro u hu; simp only [strs, List.mem_map] at hu; obtain ⟨q, _, rfl⟩ := hu; rfl) h63 hbytes hbase ?_
    exact fun v' w' h1 h2 _ => h v' w' h1 h2
def SlB (W : World) (B : Nat) (n : Nat) (l : List ByteArray) (v : Value) : Prop := ∃ A c, v = .slice A n c ∧ StrsAt W B A n l ∧ (A = none → n = 0 ∧ c = 0)
theorem SlB.below {W W' : World} {B B' : Nat} {n : Nat} {l : List ByteArray} {v : Value} (h : SlB W B n l v) (hb : Below B' W W') (hB : B ≤ B') : SlB W' B n l v := by
  obtain ⟨A, c, h1, h2, h3⟩ := h
  exact ⟨A, c, h1, h2.below hb hB, h3⟩
theorem SlB.more {W : World} {B B' : Nat} {n : Nat} {l : List ByteArray} {v : Value} (h : SlB W B n l v) (hB : B ≤ B') : SlB W B' n l v := by
  obtain ⟨A, c, h1, h2, h3⟩ := h
  exact ⟨A, c, h1, h2.more hB, h3⟩
theorem own_SlB {w : World} {B : Nat} {e : TypeId} {v : Value} {n : Nat} {l : List ByteArray} (h : w.ownsRow B e 1 v n (strs l)) (hn : n ≤ maxLen) : SlB w w.heap.size n l v := ownsRow_strs2 h hn
set_option maxRecDepth 100000 in
set_option maxHeartbeats 8000000 in
theorem rt5 {d : Dt} {w W : World} {a : Act} {K : Act → World → Prop} {v3 v4 : Value} (hM : manyD d = false) (hL : LiveR d w [(3, v3), (4, v4)] a W)
    (h3 : SlB W W.heap.size d.sn (sNames d) v3) (h4 : SlB W W.heap.size d.zn (zNames d) v4)
    (hK : ∀ a' W' v7, LiveR d w [(3, v3), (4, v4), (7, v7)] a' W' → W'.ownsRow W.heap.size 9 1 v7 (d.sn + d.zn) (strs (sNames d ++ zNames d)) → Below W.heap.size W W' → K a' W') :
    (stmR 5).wp Tryz.prog (Exit.then K (QR d w)) a W := by
  obtain ⟨A3, c3, rfl, h3, k3⟩ := h3
  obtain ⟨A4, c4, rfl, h4, k4⟩ := h4
  obtain ⟨f, rfl, hws⟩ := openR2 hL
  clear hL
  have HW := Lib.hid hws
  have HK := Lib.hid hK
  have hle := manyD_le hM
  have hs1 : d.sn ≤ 3 := hle.1
  have hs2 : d.zn ≤ 5 := hle.2.1
  have hb0 : Below W.heap.size W (W.alloc (.cells #[] 9)) := (Below.refl _ _).alloc (Nat.le_refl _) _
  have HB := Lib.hid hb0
  have H3 := Lib.hid (h3.below hb0 (Nat.le_refl _))
  have H4 := Lib.hid h4
  have K3 := Lib.hid k3
  have K4 := Lib.hid k4
  have HO : Hid ((W.alloc (.cells #[] 9)).ownsRow W.heap.size 9 1 (.slice (some ⟨W.heap.size, 0, none⟩) 0 0) 0 []) := Lib.hid (World.ownsRow_made W #[] 0 (Nat.le_refl _) (by decide) (by simp))
  have HS : Hid (strs (sNames d) ++ strs (zNames d) = strs (sNames d ++ zNames d)) := Lib.hid (by simp [strs])
  have tok : True := trivial
  clear hws hK hM hle h3 h4 k3 k4 hb0
  conv => arg 2; whnf
  go_wp2_with (first
    | (at_builtin; have _t := tok; go_must (refine wpList_appS rfl _ _ 31 rfl W.heap.size 9 (.string ⟨#[]⟩) 16 Tryz.underlying31 infoStr rfl _ 0 [] rfl HO.out A3 d.sn c3 (sNames d) rfl _ H3.out K3.out (by unfold maxLen; omega) (by omega) HB.out.size ?_); intro v' w1 hown1 hg1; have hb1 := HB.out.grown hg1 HB.out.size (fun k hk => (HO.out.lt k hk).1); clear tok _t)
    | (at_builtin; go_must (refine wpList_appS rfl _ _ 31 rfl W.heap.size 9 (.string ⟨#[]⟩) 16 Tryz.underlying31 infoStr rfl _ (0 + d.sn) _ rfl hown1 A4 d.zn c4 (zNames d) rfl _ (H4.out.below hb1 (Nat.le_refl _)) K4.out (by unfold maxLen; omega) (by omega) hb1.size ?_); intro v'' w2 hown2 hg2; have hb2 := hb1.grown hg2 hb1.size (fun k hk => (hown1.lt k hk).1)))
  rw [List.nil_append, HS.out, Nat.zero_add] at hown2
  exact HK.out _ _ _ ⟨rfl, ⟨rfl, rfl, rfl, rfl, trivial⟩, rfl, HW.out.step hb2⟩ hown2 hb2
end Go.Proofs.YtbbbeldbhlehnaaGreat
end
/-! gnomonref.CheckData: the names, alike ones, the rules. -/
section
set_option linter.unusedVariables false
set_option linter.unusedSimpArgs false
namespace Go.Proofs.YtbbbeldbhlehnaaGreat
open Go.RowKit Gno
set_option maxRecDepth 100000 in
set_option maxHeartbeats 8000000 in
theorem rt7 {d : Dt} {w W : World} {a : Act} {K : Act → World → Prop} {v3 v4 v7 : Value} {m : Nat} (hD : DataAt w w.heap.size d) (hm1 : m ≤ 1000) (hE : dataE d = dE3 d)
    (hL : LiveR d w [(3, v3), (4, v4), (7, v7)] a W) (h7 : SlB W W.heap.size m (allR d) v7)
    (hK : ∀ a', anyI (fun _ => badNm) (allNames d) = false → LiveR d w [(3, v3), (4, v4), (7, v7)] a' W → K a' W) :
    (stmR 7).wp Tryz.prog (Exit.then K (QR d w)) a W := by
  obtain ⟨A, c, rfl, hR, _⟩ := h7
  obtain ⟨f, rfl, hws⟩ := openR3 hL
  clear hL
  have HW := Lib.hid hws
  have HK := Lib.hid hK
  have HE := Lib.hid hE
  have HS := Lib.hid (size_all hD)
  have HR := Lib.hid hR
  have HLE := Lib.hid hR.1
  clear hws hK hE hD hR
  conv => arg 2; whnf
  go_wp2
  go_loopw [9] (fun b wr => ∃ i : Nat, i ≤ m ∧ b = .int .i64 i ∧ Hid (anyTo (atI (fun _ => badNm) (allR d)) i = false) ∧ Hid (wr = W)) (fun b _ => m - (intOf b).toNat)
  case atStart => exact ⟨0, Nat.zero_le _, rfl, Lib.hid rfl, Lib.hid rfl⟩
  case round =>
    obtain ⟨i, hi, rfl, hfi, hw⟩ := hrel
    obtain rfl := hw.out
    by_cases hit : i < m
    · obtain ⟨b, o, s, rfl, hbB, hq, hq2⟩ := HR.out.get hit
      have HQ := Lib.hid hq
      have e0 := hq2 _ (Below.refl _ _)
      have NA1 := isName_any s wr (HS.out s ((mem_allR d s).1 (List.mem_of_getElem? hq)))
      clear hq hq2
      cases hnm : nameOk s
      · rw [hnm] at NA1
        have NA := Lib.hid NA1
        have HM : Hid (dataE d = 5) := Lib.hid (by rw [HE.out]; unfold dE3; rw [if_pos (by rw [← any_allR]; exact anyI_yes HQ.out (by unfold badNm; simp [hnm]))])
        clear hnm hfi NA1
        go_wp2_with (go_at_call 23; (with_reducible refine NA.out.mono ?_); rintro e w5 ⟨rfl, rfl⟩)
        go_ret
        exact ⟨ret_int HM.out.symm, HW.out.below⟩
      · rw [hnm] at NA1
        have NA := Lib.hid NA1
        have HM := Lib.hid (anyI_no (p := fun _ => badNm) HQ.out hfi.out (by unfold badNm; simp [hnm]))
        clear hnm hfi NA1
        go_wp2_with (go_at_call 23; (with_reducible refine NA.out.mono ?_); rintro e w5 ⟨rfl, rfl⟩)
        go_roundw
        case rel => exact ⟨i + 1, by omega, by go_num, HM, Lib.hid trivial⟩
        case measure => simp [intOf]; omega
    · have HM : Hid (anyI (fun _ => badNm) (allNames d) = false) := Lib.hid (by rw [← any_allR]; exact anyI_end (by rw [HLE.out]; omega) (by rw [HLE.out]; exact hi) hfi.out)
      clear hfi
      go_wp2
      exact HK.out _ HM.out ⟨rfl, ⟨rfl, rfl, rfl, rfl, trivial⟩, rfl, HW.out⟩
set_option maxRecDepth 100000 in
set_option maxHeartbeats 8000000 in
theorem rt8 {d : Dt} {w W : World} {a : Act} {K : Act → World → Prop} {v3 v4 v7 : Value} {m : Nat} (hE : dataE d = dE4 d)
    (hL : LiveR d w [(3, v3), (4, v4), (7, v7)] a W) (h3 : SlB W W.heap.size d.sn (sNames d) v3) (h4 : SlB W W.heap.size m (zNames d ++ lNames d) v4)
    (hK : ∀ a' W', (dup (sNames d) || dup (zNames d ++ lNames d)) = false → LiveR d w [] a' W' → K a' W') :
    (stmR 8).wp Tryz.prog (Exit.then K (QR d w)) a W := by
  obtain ⟨A3, c3, rfl, h3, _⟩ := h3
  obtain ⟨A4, c4, rfl, h4, _⟩ := h4
  obtain ⟨f, rfl, hws⟩ := openR3 hL
  clear hL
  have HW := Lib.hid hws
  have HK := Lib.hid hK
  have HE := Lib.hid hE
  have T1 := twice_any A3 d.sn c3 _ W h3
  have T2 : Hid (∀ W1, Below W.heap.size W W1 → Calls Tryz.prog 80 #[.slice A4 m c4] W1 fun e w' => e = .returned (.bool (dup (zNames d ++ lNames d))) ∧ Below W1.heap.size W1 w') := Lib.hid (fun W1 hb => twice_any A4 m c4 _ W1 ((h4.below hb (Nat.le_refl _)).more hb.size))
  clear hws hK hE h3 h4
  conv => arg 2; whnf
  cases hd1 : dup (sNames d)
  · rw [hd1] at T1
    have TA := Lib.hid T1
    have HD1 := Lib.hid hd1
    clear T1 hd1
    cases hd2 : dup (zNames d ++ lNames d)
    · rw [hd2] at T2
      have HM : Hid ((dup (sNames d) || dup (zNames d ++ lNames d)) = false) := Lib.hid (by rw [HD1.out, hd2]; rfl)
      clear hd2
      go_wp2_with (first
        | (go_at_call 80; (with_reducible refine TA.out.mono ?_); rintro e w4 ⟨rfl, hb4⟩)
        | (go_at_call 80; (with_reducible refine (T2.out _ hb4).mono ?_); rintro e w5 ⟨rfl, hb5⟩))
      exact HK.out _ _ HM.out ⟨rfl, ⟨rfl, trivial⟩, rfl, HW.out.step (hb4.trans (hb5.mono hb4.size))⟩
    · rw [hd2] at T2
      have HM : Hid (dataE d = 6) := Lib.hid (by rw [HE.out]; unfold dE4; rw [if_pos (by rw [hd2]; simp)])
      clear hd2
      go_wp2_with (first
        | (go_at_call 80; (with_reducible refine TA.out.mono ?_); rintro e w4 ⟨rfl, hb4⟩)
        | (go_at_call 80; (with_reducible refine (T2.out _ hb4).mono ?_); rintro e w5 ⟨rfl, hb5⟩))
      go_ret
      exact ⟨ret_int HM.out.symm, (HW.out.step (hb4.trans (hb5.mono hb4.size))).below⟩
  · rw [hd1] at T1
    have TA := Lib.hid T1
    have HM : Hid (dataE d = 6) := Lib.hid (by rw [HE.out]; unfold dE4; rw [if_pos (by rw [hd1]; simp)])
    clear T1 hd1
    go_wp2_with (go_at_call 80; (with_reducible refine TA.out.mono ?_); rintro e w4 ⟨rfl, hb4⟩)
    go_ret
    exact ⟨ret_int HM.out.symm, (HW.out.step hb4).below⟩
set_option maxRecDepth 100000 in
set_option maxHeartbeats 8000000 in
theorem rt9 {d : Dt} {w W : World} {a : Act} {K : Act → World → Prop} (hD : DataAt w w.heap.size d) (hE : dataE d = dE5 d) (hL : LiveR d w [] a W)
    (hK : ∀ a' W', setsE d.ss = 0 → LiveR d w [] a' W' → K a' W') :
    (stmR 9).wp Tryz.prog (Exit.then K (QR d w)) a W := by
  obtain ⟨f, rfl, hws⟩ := openR0 hL
  clear hL
  have HW := Lib.hid hws
  have HK := Lib.hid hK
  have HE := Lib.hid hE
  have hsz := hws.size
  have HD := Lib.hid ((hD.next hws.below).1)
  have hn : d.sn ≤ 9223372036854775807 := HD.out.2.1
  have HLE := Lib.hid HD.out.1
  clear hws hK hE hD
  conv => arg 2; whnf
  go_wp2
  go_loopw [10] (fun b wr => ∃ i : Nat, i ≤ d.sn ∧ b = .int .i64 i ∧ Hid (setsE (d.ss.drop i) = setsE d.ss) ∧ Below W.heap.size W wr) (fun b _ => d.sn - (intOf b).toNat)
  case atStart => exact ⟨0, Nat.zero_le _, rfl, Lib.hid (by rw [List.drop_zero]), Below.refl _ _⟩
  case round =>
    obtain ⟨i, hi, rfl, hfi, hb⟩ := hrel
    obtain ⟨c0, c1, c2⟩ := (HW.out.step hb).cells
    by_cases hit : i < d.sn
    · obtain ⟨b, o, q, hA, hbB, hq, hq1, hq2⟩ := sets_get HD.out hit
      have HQ := Lib.hid (setsE_drop hq)
      have HA := Lib.hid hA
      have HP := Lib.hid (hq2 W (Below.refl _ _)).2
      have hqn : q.n ≤ 9223372036854775807 := HP.out.2.1
      have HPL := Lib.hid HP.out.1
      have HC : Hid (∀ w1, Below W.heap.size W w1 → w1.cell? ⟨w.heap.size, 0, none⟩ = some (.slice (some ⟨b, o, none⟩) d.sn d.sc) ∧ w1.cell? ⟨b, o + i * 2 + 1, none⟩ = some (.slice q.A q.n q.cap)) := Lib.hid (fun w1 h1 =>
        ⟨by rw [← HA.out]; exact (HW.out.step h1).cells.1, ((hq2 _ h1).1).2⟩)
      obtain ⟨wo, hwo⟩ : ∃ wo : World, wo = wr := ⟨_, rfl⟩
      rw [← hwo] at hb c0
      rw [← hwo]
      clear hq hq2 hA hwo c1 c2
      go_wp2
      go_loopw [11, 12] (fun b b12 wr => ∃ j : Nat, j ≤ q.n ∧ b = .int .i64 j ∧ Hid (firstE (q.rs.drop j) = firstE q.rs) ∧ Below W.heap.size W wr) (fun b _ _ => q.n - (intOf b).toNat)
      case atStart => exact ⟨0, Nat.zero_le _, rfl, Lib.hid (by rw [List.drop_zero]), hb⟩
      case round =>
        obtain ⟨j, hj, rfl, hfj, hbj⟩ := hrel
        obtain ⟨k0, k1⟩ := HC.out _ hbj
        by_cases hjt : j < q.n
        · obtain ⟨c, g, r, hA2, hcB, hr, hle, hr2⟩ := HP.out.get hjt
          obtain ⟨r0, r1, r2, r3, r4, r5, r6, r7, r8⟩ := hr2 _ hbj
          rw [hA2] at k1
          have FD := Lib.hid (firstE_drop hr)
          have RC : Hid (∀ w, Calls Tryz.prog 81 #[.agg #[.int .i64 r.fy, .int .i64 r.ty, .int .i64 r.mo, .int .i64 r.k, .int .i64 r.wk, .int .i64 r.d, .int .i64 r.a, .int .i64 r.sv, .string r.le]] w fun e w' => e = .returned (.int .i64 r.e) ∧ Below w.heap.size w w') := Lib.hid (fun w => checkRule_any r.fy r.ty r.mo r.k r.wk r.d r.a r.sv r.le w hle)
          clear hr hr2 hA2 hle
          by_cases he : r.e = 0
          · have heb : (r.e != 0) = false := by simpa using he
            have HX := Lib.hid ((FD.out.2 he).symm.trans hfj.out)
            clear he hfj
            go_wp2_with (go_at_call 81; (with_reducible refine (RC.out _).mono ?_); rintro e w4 ⟨rfl, hb4⟩; have hb5 := hbj.trans (hb4.mono hbj.size); clear hb4)
            go_roundw
            case rel => exact ⟨j + 1, by omega, by go_num, HX, hb5⟩
            case measure => simp [intOf]; omega
          · have heb : (r.e != 0) = true := by simpa using he
            have HM : Hid (dataE d = r.e) := Lib.hid (by
              have h1 : firstE q.rs = r.e := by rw [← hfj.out]; exact FD.out.1 he
              have h2 : setsE d.ss = r.e := by rw [← hfi.out, HQ.out.1 (by rw [h1]; exact he)]; exact h1
              rw [HE.out]; unfold dE5; rw [if_pos (by rw [h2]; exact he)]; exact h2)
            clear he hfj hfi
            go_wp2_with (go_at_call 81; (with_reducible refine (RC.out _).mono ?_); rintro e w4 ⟨rfl, hb4⟩; have hb5 := hbj.trans (hb4.mono hbj.size); clear hb4)
            go_ret
            exact ⟨ret_int HM.out.symm, (HW.out.step hb5).below⟩
        · have HX : Hid (setsE (d.ss.drop (i + 1)) = setsE d.ss) := Lib.hid (by
            have h1 : firstE q.rs = 0 := by rw [← hfj.out, List.drop_of_length_le (by rw [HPL.out]; omega)]; rfl
            exact (HQ.out.2 h1).symm.trans hfi.out)
          clear hfj hfi
          go_wp2
          go_roundw
          case rel => exact ⟨i + 1, by omega, by go_num, HX, hbj⟩
          case measure => simp [intOf]; omega
    · have HM : Hid (setsE d.ss = 0) := Lib.hid (by rw [← hfi.out, List.drop_of_length_le (by rw [HLE.out]; omega)]; rfl)
      clear hfi
      go_wp2
      exact HK.out _ _ HM.out ⟨rfl, ⟨rfl, trivial⟩, rfl, HW.out.step hb⟩
end Go.Proofs.YtbbbeldbhlehnaaGreat
end
/-! gnomonref.CheckData: the eras and their formats. -/
section
set_option linter.unusedVariables false
set_option linter.unusedSimpArgs false
namespace Gno
open Go
theorem ahead_is (es : List Er) (i : Nat) : aheadG 0 es i = aheadOf es i := by cases i <;> rfl
def badZ (d : Dt) (z : Zn) : Bool := (aheads 0 z.es).any (badE d) || badEnd z
theorem badZ_all (d : Dt) : anyI (fun _ => badZ d) d.zs = ((erasL d.zs).any (badE d) || anyI (fun _ => badEnd) d.zs) := by
  rw [anyI_any, anyI_any]
  unfold erasL
  rw [List.any_flatMap]
  induction d.zs with
  | nil => rfl
  | cons z t ih =>
    simp only [List.any_cons]
    rw [ih]
    unfold badZ
    cases (aheads 0 z.es).any (badE d) <;> cases badEnd z <;> simp
def badFZ (z : Zn) : Bool := (aheads 0 z.es).any badF
theorem badFZ_all (d : Dt) : anyI (fun _ => badFZ) d.zs = (erasL d.zs).any badF := by
  rw [anyI_any]
  unfold erasL
  rw [List.any_flatMap]
  rfl
theorem dE6_bad {d : Dt} (h : anyI (fun _ => badZ d) d.zs = true) : dE6 d = 3 := by
  rw [badZ_all] at h
  unfold dE6
  by_cases h1 : (erasL d.zs).any (badE d) = true
  · rw [if_pos h1]
  · rw [if_neg h1]
    unfold dE7
    rw [if_pos (by simpa [h1] using h)]
theorem dE6_good {d : Dt} (h : anyI (fun _ => badZ d) d.zs = false) : dE6 d = dE8 d := by
  rw [badZ_all, Bool.or_eq_false_iff] at h
  unfold dE6
  rw [if_neg (by rw [h.1]; simp)]
  unfold dE7
  rw [if_neg (by rw [h.2]; simp)]
end Gno
namespace Go.Proofs.YtbbbeldbhlehnaaGreat
open Go.RowKit Gno
set_option maxRecDepth 100000 in
set_option maxHeartbeats 8000000 in
theorem rt10 {d : Dt} {w W : World} {a : Act} {K : Act → World → Prop} (hD : DataAt w w.heap.size d) (hM : manyD d = false) (hE : dataE d = dE6 d) (hL : LiveR d w [] a W)
    (hK : ∀ a' W', anyI (fun _ => badZ d) d.zs = false → LiveR d w [] a' W' → K a' W') :
    (stmR 10).wp Tryz.prog (Exit.then K (QR d w)) a W := by
  obtain ⟨f, rfl, hws⟩ := openR0 hL
  clear hL
  have HW := Lib.hid hws
  have HK := Lib.hid hK
  have HE := Lib.hid hE
  have hsz := hws.size
  have HD := Lib.hid ((hD.next hws.below).2.1)
  have hn : d.zn ≤ 9223372036854775807 := HD.out.2.1
  have HLE := Lib.hid HD.out.1
  have hle := (manyD_le hM).1
  have HSN : Hid (d.sn ≤ maxLen) := Lib.hid (by unfold maxLen; omega)
  clear hws hK hE hD hM hle
  conv => arg 2; whnf
  go_wp2
  go_loopw [13] (fun b wr => ∃ i : Nat, i ≤ d.zn ∧ b = .int .i64 i ∧ Hid (anyTo (atI (fun _ => badZ d) d.zs) i = false) ∧ Below W.heap.size W wr) (fun b _ => d.zn - (intOf b).toNat)
  case atStart => exact ⟨0, Nat.zero_le _, rfl, Lib.hid rfl, Below.refl _ _⟩
  case round =>
    obtain ⟨i, hi, rfl, hfi, hb⟩ := hrel
    obtain ⟨c0, c1, c2⟩ := (HW.out.step hb).cells
    by_cases hit : i < d.zn
    · obtain ⟨b, o, q, hA, hbB, hq, hq1, hq2⟩ := zones_get HD.out hit
      have HQ := Lib.hid hq
      have HA := Lib.hid hA
      have HP := Lib.hid (hq2 W (Below.refl _ _)).2
      have hqn : q.n ≤ 9223372036854775807 := HP.out.2.1
      have HPL := Lib.hid HP.out.1
      have HC : Hid (∀ w1, Below W.heap.size W w1 → w1.cell? ⟨w.heap.size, 1, none⟩ = some (.slice (some ⟨b, o, none⟩) d.zn d.zc) ∧ w1.cell? ⟨b, o + i * 2 + 1, none⟩ = some (.slice q.A q.n q.cap)) := Lib.hid (fun w1 h1 =>
        ⟨by rw [← HA.out]; exact (HW.out.step h1).cells.2.1, ((hq2 _ h1).1).2⟩)
      obtain ⟨wo, hwo⟩ : ∃ wo : World, wo = wr := ⟨_, rfl⟩
      rw [← hwo] at hb c1
      rw [← hwo]
      clear hq hq2 hA hwo c0 c2
      go_wp2
      go_loopw [14, 15] (fun b14 b wr => ∃ j : Nat, j ≤ q.n ∧ b = .int .i64 j ∧ b14 = .int .i64 (aheadG 0 q.es j) ∧ Hid ((aheads 0 (q.es.take j)).any (badE d) = false) ∧ Below W.heap.size W wr) (fun _ b _ => q.n - (intOf b).toNat)
      case atStart => exact ⟨0, Nat.zero_le _, rfl, rfl, Lib.hid (by rw [List.take_zero]; rfl), hb⟩
      case round =>
        obtain ⟨j, hj, rfl, rfl, hfj, hbj⟩ := hrel
        obtain ⟨k0, k1⟩ := HC.out _ hbj
        by_cases hjt : j < q.n
        · obtain ⟨c, g, x, hA2, hcB, hx, hxf, hxx⟩ := eras_get HP.out hjt
          obtain ⟨x0, x1, x2, x3, x4⟩ := hxx _ hbj
          rw [hA2] at k1
          have HX := Lib.hid hx
          have hbx := hbj.alloc hbj.size (.cells #[.int .i64 x.std, .int .i64 x.set, .int .i64 x.save, .string x.fmt, .int .i64 x.til] 83)
          have hzj := hbj.size
          obtain ⟨ah, hah⟩ : ∃ ah, ah = aheadG 0 q.es j := ⟨_, rfl⟩
          rw [← hah]
          have HAH := Lib.hid hah
          obtain ⟨m0, m1, m2⟩ := (HW.out.step hbx).cells
          have EF : ∀ w, Calls Tryz.prog 82 #[.agg #[.slice d.sA d.sn d.sc, .slice d.zA d.zn d.zc, .slice d.lA d.ln d.lc], .agg #[.int .i64 x.std, .int .i64 x.set, .int .i64 x.save, .string x.fmt, .int .i64 x.til], .int .i64 ah] w fun e w' => e = .returned (.bool (eraOk d.sn x ah)) ∧ Below w.heap.size w w' := fun w => eraFine_any d x ah w HSN.out
          have HB5 : Hid (∀ w5, Below (wr.heap.size + 1) (wr.alloc (.cells #[.int .i64 x.std, .int .i64 x.set, .int .i64 x.save, .string x.fmt, .int .i64 x.til] 83)) w5 → Below W.heap.size W w5 ∧ w5.cell? ⟨wr.heap.size, 4, none⟩ = some (.int .i64 x.til)) := Lib.hid (fun w5 h5 =>
            ⟨hbx.trans (h5.mono (by omega)), (h5.cell (by simp)).trans (by simp)⟩)
          rw [HA.out] at m1 EF
          clear hx hxx hA2 hxf hah
          cases hok : eraOk d.sn x ah
          · rw [hok] at EF
            have EF := Lib.hid EF
            have HM : Hid (dataE d = 3) := Lib.hid (by
              rw [HE.out]
              refine dE6_bad (anyI_yes HQ.out ?_)
              unfold badZ
              rw [any_mid (aheads_split HX.out) (by unfold badE; rw [← HAH.out, hok]; rfl)]; rfl)
            clear hok hfj hfi
            rw [HA.out] at *
            go_wp2_with (go_at_call 82; (with_reducible refine (EF.out _).mono ?_); rintro e w5 ⟨rfl, hb5⟩; simp only [World.size_alloc] at hb5; obtain ⟨hb6, e4⟩ := HB5.out _ hb5)
            go_ret
            exact ⟨ret_int HM.out.symm, (HW.out.step hb6).below⟩
          · rw [hok] at EF
            have EF := Lib.hid EF
            have HM : Hid ((aheads 0 (q.es.take (j + 1))).any (badE d) = false) := Lib.hid (by
              rw [aheads_take HX.out]
              exact any_more hfj.out (by unfold badE; rw [← HAH.out, hok]; rfl))
            have HN : Hid (aheadG 0 q.es (j + 1) = x.til) := Lib.hid (by simp only [aheadG, HX.out])
            clear hok hfj
            go_wp2_with (go_at_call 82; (with_reducible refine (EF.out _).mono ?_); rintro e w5 ⟨rfl, hb5⟩; simp only [World.size_alloc] at hb5; obtain ⟨hb6, e4⟩ := HB5.out _ hb5)
            go_roundw
            case rel => exact ⟨j + 1, by omega, by go_num, by rw [HN.out], HM, hb6⟩
            case measure => simp [intOf]; omega
        · have hjn : j = q.n := by omega
          have HF : Hid ((aheads 0 q.es).any (badE d) = false) := Lib.hid (by
            have h1 := hfj.out
            rwa [List.take_of_length_le (by rw [HPL.out]; omega)] at h1)
          have HEnd : Hid (badEnd q = decide (aheadG 0 q.es j ≠ 1893456000)) := Lib.hid (by unfold badEnd; rw [← ahead_is, HPL.out, hjn])
          obtain ⟨ah, hah⟩ : ∃ ah, ah = aheadG 0 q.es j := ⟨_, rfl⟩
          rw [← hah] at HEnd ⊢
          clear hfj hah
          by_cases h1 : ah = 1893456000
          · have g1 : (ah != 1893456000) = false := by simpa using h1
            have HX := Lib.hid (anyI_no (p := fun _ => badZ d) HQ.out hfi.out (by unfold badZ; rw [HF.out, HEnd.out]; simp [h1]))
            clear h1 hfi
            go_wp2
            go_roundw
            case rel => exact ⟨i + 1, by omega, by go_num, HX, hbj⟩
            case measure => simp [intOf]; omega
          · have g1 : (ah != 1893456000) = true := by simpa using h1
            have HM : Hid (dataE d = 3) := Lib.hid (by
              rw [HE.out]
              exact dE6_bad (anyI_yes HQ.out (by unfold badZ; rw [HEnd.out]; simp [h1])))
            clear h1 hfi
            go_wp2
            go_ret
            exact ⟨ret_int HM.out.symm, (HW.out.step hbj).below⟩
    · have HM := Lib.hid (anyI_end (by rw [HLE.out]; omega) (by rw [HLE.out]; exact hi) hfi.out)
      clear hfi
      go_wp2
      exact HK.out _ _ HM.out ⟨rfl, ⟨rfl, trivial⟩, rfl, HW.out.step hb⟩
set_option maxRecDepth 100000 in
set_option maxHeartbeats 8000000 in
theorem rt11 {d : Dt} {w W : World} {a : Act} {K : Act → World → Prop} (hD : DataAt w w.heap.size d) (hE : dataE d = dE8 d) (hL : LiveR d w [] a W)
    (hK : ∀ a' W', (erasL d.zs).any badF = false → LiveR d w [] a' W' → K a' W') :
    (stmR 11).wp Tryz.prog (Exit.then K (QR d w)) a W := by
  obtain ⟨f, rfl, hws⟩ := openR0 hL
  clear hL
  have HW := Lib.hid hws
  have HK := Lib.hid hK
  have HE := Lib.hid hE
  have hsz := hws.size
  have HD := Lib.hid ((hD.next hws.below).2.1)
  have hn : d.zn ≤ 9223372036854775807 := HD.out.2.1
  have HLE := Lib.hid HD.out.1
  clear hws hK hE hD
  conv => arg 2; whnf
  go_wp2
  go_loopw [17] (fun b wr => ∃ i : Nat, i ≤ d.zn ∧ b = .int .i64 i ∧ Hid (anyTo (atI (fun _ => badFZ) d.zs) i = false) ∧ Below W.heap.size W wr) (fun b _ => d.zn - (intOf b).toNat)
  case atStart => exact ⟨0, Nat.zero_le _, rfl, Lib.hid rfl, Below.refl _ _⟩
  case round =>
    obtain ⟨i, hi, rfl, hfi, hb⟩ := hrel
    obtain ⟨c0, c1, c2⟩ := (HW.out.step hb).cells
    by_cases hit : i < d.zn
    · obtain ⟨b, o, q, hA, hbB, hq, hq1, hq2⟩ := zones_get HD.out hit
      have HQ := Lib.hid hq
      have HA := Lib.hid hA
      have HP := Lib.hid (hq2 W (Below.refl _ _)).2
      have hqn : q.n ≤ 9223372036854775807 := HP.out.2.1
      have HPL := Lib.hid HP.out.1
      have HC : Hid (∀ w1, Below W.heap.size W w1 → w1.cell? ⟨w.heap.size, 1, none⟩ = some (.slice (some ⟨b, o, none⟩) d.zn d.zc) ∧ w1.cell? ⟨b, o + i * 2 + 1, none⟩ = some (.slice q.A q.n q.cap)) := Lib.hid (fun w1 h1 =>
        ⟨by rw [← HA.out]; exact (HW.out.step h1).cells.2.1, ((hq2 _ h1).1).2⟩)
      obtain ⟨wo, hwo⟩ : ∃ wo : World, wo = wr := ⟨_, rfl⟩
      rw [← hwo] at hb c1
      rw [← hwo]
      clear hq hq2 hA hwo c0 c2
      go_wp2
      go_loopw [18] (fun b wr => ∃ j : Nat, j ≤ q.n ∧ b = .int .i64 j ∧ Hid ((aheads 0 (q.es.take j)).any badF = false) ∧ Below W.heap.size W wr) (fun b _ => q.n - (intOf b).toNat)
      case atStart => exact ⟨0, Nat.zero_le _, rfl, Lib.hid (by rw [List.take_zero]; rfl), hb⟩
      case round =>
        obtain ⟨j, hj, rfl, hfj, hbj⟩ := hrel
        obtain ⟨k0, k1⟩ := HC.out _ hbj
        by_cases hjt : j < q.n
        · obtain ⟨c, g, x, hA2, hcB, hx, hxf, hxx⟩ := eras_get HP.out hjt
          obtain ⟨x0, x1, x2, x3, x4⟩ := hxx _ hbj
          rw [hA2] at k1
          have HX := Lib.hid hx
          have FF : ∀ w, Calls Tryz.prog 83 #[.string x.fmt] w fun e w' => e = .returned (.bool (fmtOk x.fmt)) ∧ Below w.heap.size w w' := fun w => isFormat_any x.fmt w hxf
          clear hx hxx hA2 hxf
          cases hok : fmtOk x.fmt
          · rw [hok] at FF
            have EF := Lib.hid FF
            have HM : Hid (dataE d = 1) := Lib.hid (by
              rw [HE.out]
              unfold dE8
              rw [if_pos (by rw [← badFZ_all]; exact anyI_yes HQ.out (any_mid (aheads_split HX.out) (by unfold badF; rw [hok]; rfl)))])
            clear hok hfj hfi FF
            go_wp2_with (go_at_call 83; (with_reducible refine (EF.out _).mono ?_); rintro e w5 ⟨rfl, hb5⟩)
            go_ret
            exact ⟨ret_int HM.out.symm, (HW.out.step (hbj.trans (hb5.mono hbj.size))).below⟩
          · rw [hok] at FF
            have EF := Lib.hid FF
            have HM : Hid ((aheads 0 (q.es.take (j + 1))).any badF = false) := Lib.hid (by
              rw [aheads_take HX.out]
              exact any_more hfj.out (by unfold badF; rw [hok]; rfl))
            clear hok hfj FF
            go_wp2_with (go_at_call 83; (with_reducible refine (EF.out _).mono ?_); rintro e w5 ⟨rfl, hb5⟩; have hb6 := hbj.trans (hb5.mono hbj.size); clear hb5)
            go_roundw
            case rel => exact ⟨j + 1, by omega, by go_num, HM, hb6⟩
            case measure => simp [intOf]; omega
        · have HX := Lib.hid (anyI_no (p := fun _ => badFZ) HQ.out hfi.out (by
            have h1 := hfj.out
            rwa [List.take_of_length_le (by rw [HPL.out]; omega)] at h1))
          clear hfj hfi
          go_wp2
          go_roundw
          case rel => exact ⟨i + 1, by omega, by go_num, HX, hbj⟩
          case measure => simp [intOf]; omega
    · have HM : Hid ((erasL d.zs).any badF = false) := Lib.hid (by rw [← badFZ_all]; exact anyI_end (by rw [HLE.out]; omega) (by rw [HLE.out]; exact hi) hfi.out)
      clear hfi
      go_wp2
      exact HK.out _ _ HM.out ⟨rfl, ⟨rfl, trivial⟩, rfl, HW.out.step hb⟩
end Go.Proofs.YtbbbeldbhlehnaaGreat
end
