/- Parts of a proof, laid together. -/
import Derived.Test.YtbbbeldbhlehnaaGreatDoorMUNmTl8
set_option linter.unusedSimpArgs false
set_option linter.unusedVariables false
/-! Offsets as text: Read, where four digits stand together. -/
section
set_option linter.unusedVariables false
set_option linter.unusedSimpArgs false
set_option maxRecDepth 100000
namespace Go.Proofs.YtbbbeldbhlehnaaGreatDoor
open Go.RowKit Gno Go.Maps
set_option maxHeartbeats 4000000 in
theorem readW_d (k : Int) (t z a : ByteArray) (f : Nat) (S : Style k a z f) (hz : z = ⟨#[]⟩ ∨ ¬ t = z) (r : ByteArray) (hr : r = B (Lib.trimPrefix t.data.toList (aheadL k))) (hp : Lib.hasPrefix t.data.toList (aheadL k) = true) (hs1 : 2 ≤ r.size) (hs2 : r.size ≤ 6)
    (h0 m0 : ByteArray) (is : Bool) (hc : Lib.cut r.data.toList.tail [58] = (h0.data.toList, m0.data.toList, is)) (hsp : is = false ∧ k = 1 ∧ h0.size = 4) (w : World) (hm : OMet w) : Calls Tryz.prog 22 #[.int .i64 k, .string t] w fun e w' => e = .returned (.tuple #[.int .i64 (readN k t), .int .i64 (readE k t)]) ∧ Below w.heap.size w w' := by
  have C := Lib.hid (fun w => styles_any w)
  have HL := Lib.hid (fun (w1 : World) h => S.look w1 w.heap.size h)
  unfold LookAt at HL
  have hl := cut_sizes (by rw [Lib.size_eq] at hs2; exact hs2) hc
  have D : Hid (∀ w : World, Calls Tryz.prog 55 #[.string t, .string a] w fun e w' => e = .returned (.tuple #[.string r, .bool true]) ∧ w' = w) := Lib.hid fun w => by
    have h := Go.Proofs.Tryz.strings_CutPrefix t a w
    rw [S.ahead] at h ⊢
    rw [B_toList, hp] at h
    rw [hr]
    exact h
  have CC : Hid (∀ w : World, OMet w → Calls Tryz.prog 56 #[.string (r.extract 1 r.size), .string ⟨#[58]⟩] w fun e w' => e = .returned (.tuple #[.string h0, .string m0, .bool is]) ∧ Below w.heap.size w w') := Lib.hid fun w hm => by
    have h := cutP_any (r.extract 1 r.size) (by rw [ByteArray.size_extract]; omega) w hm
    have e : (r.extract 1 r.size).data.toList = r.data.toList.tail := by rw [Lib.extract_data, List.take_of_length_le (by rw [List.length_drop, Lib.size_eq]; omega), List.drop_one]
    rw [e, hc] at h
    simpa only [B_list] using h
  have hnf := fun (w : World) => fun (x : Addr) => run_store Tryz.prog w x (.func (.func f) #[] #[]) .plain rfl
  have e0 : z.toList = [] ∨ (¬ z.toList = [] ∧ z.toList.isEmpty = false ∧ (t.toList == z.toList) = false) := by
    by_cases hz0 : z = ⟨#[]⟩
    · exact .inl (empty_yes hz0)
    · rcases hz with h | h
      · exact absurd h hz0
      · exact .inr ⟨empty_no hz0, isEmpty_no hz0, same_no h⟩
  obtain ⟨P, hP⟩ : ∃ P, P = parseR k r.data.toList := ⟨_, rfl⟩
  have HP := parse_some (k := k) (t := t) (by
    rcases hz with h | h
    · refine .inl ?_
      have h2 := S.zero
      rw [h] at h2
      exact (B_inj (a := []) h2).symm
    · exact .inr fun e => h (e.trans S.zero.symm)) hp (by rw [← B_size, ← hr]; exact hs1) (by rw [← B_size, ← hr]; exact hs2)
  rw [show Lib.trimPrefix t.data.toList (aheadL k) = r.data.toList by rw [hr, B_toList], ← hP] at HP
  obtain ⟨X, hX⟩ : ∃ X, X = showT k P := ⟨_, rfl⟩
  obtain ⟨E, hE⟩ : ∃ E, E = showE k P := ⟨_, rfl⟩
  have HG : Hid (if E = 0 ∧ X = t then readN k t = P ∧ readE k t = 0 else readN k t = 0 ∧ readE k t = 1) := Lib.hid (by
    rw [hX, hE]
    split
    · rename_i hh
      exact read_yes ⟨hh.1, hh.2⟩
    · rename_i hh
      exact read_other S.ok HP hh)
  have SC : Hid (∀ (v : Int) (w : World), v = P → Calls Tryz.prog 58 #[.int .i64 k, .int .i64 v] w fun e w' => e = .returned (.tuple #[.string X, .int .i64 E]) ∧ Below w.heap.size w w') := Lib.hid fun v w hv => by
    rw [hv, hX, hE]; exact show_any k P (wf_small (kindB_iff.1 S.ok)) w
  obtain ⟨x, hx⟩ : ∃ x, x = atoi0 (h0.data.toList.take 2) := ⟨_, rfl⟩
  obtain ⟨y, hy⟩ : ∃ y, y = atoi0 (h0.data.toList.drop 2) := ⟨_, rfl⟩
  have hx1 := atoi0_bound (l := (h0.data.toList.take 2)) (by rw [List.length_take]; omega)
  have hy1 := atoi0_bound (l := (h0.data.toList.drop 2)) (by rw [List.length_drop]; have := len_of hl.1; omega)
  rw [← hx] at hx1
  rw [← hy] at hy1
  have A1 : Hid (∀ w, OMet w → Calls Tryz.prog 57 #[.string (h0.extract 0 2)] w fun e w' => ∃ er, e = .returned (.tuple #[.int .i64 x, er]) ∧ Below w.heap.size w w') := Lib.hid fun w hm => by
    rw [hx]; have h := atoiP_any (h0.extract 0 2) (by rw [ByteArray.size_extract]; omega) w hm; rw [Lib.extract_data, List.drop_zero] at h; exact h
  have A2 : Hid (∀ w, OMet w → Calls Tryz.prog 57 #[.string (h0.extract 2 4)] w fun e w' => ∃ er, e = .returned (.tuple #[.int .i64 y, er]) ∧ Below w.heap.size w w') := Lib.hid fun w hm => by
    rw [hy]; have h4' := hsp.2.2; have h := atoiP_any (h0.extract 2 4) (by rw [ByteArray.size_extract]; omega) w hm; rw [Lib.extract_data, List.take_of_length_le (by rw [List.length_drop, ← Lib.size_eq]; omega)] at h; exact h
  have hsec : secs k r.data.toList = (x * 60 + y) * 60 := by rw [hx, hy]; exact secs_split hc ⟨hsp.1, hsp.2.1, by rw [← Lib.size_eq]; exact hsp.2.2⟩
  clear hx hy
  have hpos : 0 < r.size := by omega
  have hsg : (((((r[0]'hpos).toNat : Nat) : Int) == 45) = true ∧ P = - ((x * 60 + y) * 60)) ∨ (((((r[0]'hpos).toNat : Nat) : Int) == 45) = false ∧ P = (x * 60 + y) * 60) := by
    cases hs : ((((r[0]'hpos).toNat : Nat) : Int) == 45)
    · exact .inr ⟨rfl, by rw [hP, sign_no hs, hsec]⟩
    · exact .inl ⟨rfl, by rw [hP, sign_yes hs, hsec]⟩
  clear hsec hP
  have h4b : (((h0.size : Nat) : Int) == 4) = true := by rw [beq_iff_eq]; omega
  obtain ⟨hsp0, hk1, h4⟩ := hsp
  clear S
  subst hk1
  subst hsp0
  clear hz hr hp hc hX hE HP
  rcases hsg with ⟨hsg, hPe⟩ | ⟨hsg, hPe⟩
  all_goals
    rcases e0 with e1 | ⟨e1, e2, e3⟩
    all_goals
      go_enter Tryz.func22, Tryz.ntmps22
      go_upto_region 11 with (first | (go_at_call 54; (with_reducible refine (C.out _).mono ?_); rintro e w1 ⟨rfl, hown, hb1⟩; have hlk := HL.out w1 hown) | (go_at_call 55; (with_reducible refine (D.out _).mono ?_); rintro e w2 ⟨rfl, rfl⟩) | (go_at_call 56; (with_reducible refine (CC.out _ (hm.below (hb1.alloc hb1.size _))).mono ?_); rintro e w2 ⟨rfl, hb2⟩; have hB2 := below_step (hb1.alloc hb1.size _) hb2; clear hb2; have hM2 := hm.below hB2))
      go_quiet (fail)
      go_upto_region 18 with (first | (go_at_call 57; first | ((with_reducible refine (A1.out _ (hM2.below (below_drewO _ _))).mono ?_); rintro e w3 ⟨er3, rfl, hb3⟩; have hB3 := below_step (below_step hB2 (below_drewO w2 _)) hb3; clear hb3; have hM3 := hm.below hB3) | ((with_reducible refine (A2.out _ hM3).mono ?_); rintro e w4 ⟨er4, rfl, hb4⟩; have hB4 := below_step hB3 hb4; clear hb4)) | (go_at_call 58; (with_reducible refine (SC.out _ _ (by omega)).mono ?_); rintro e w5 ⟨rfl, hb5⟩; have hB5 := below_step hB4 hb5; clear hb5))
      by_cases hE : E = 0
      · by_cases hX : X = t
        · have HF : Hid (readN 1 t = P ∧ readE 1 t = 0) := Lib.hid (by have hG := HG.out; rw [if_pos ⟨hE, hX⟩] at hG; exact hG)
          have hx := same_yes hX
          clear HG hX
          go_wp2
          go_ret2
          refine ⟨?_, hB5⟩
          rw [HF.out.1, HF.out.2]
          first | rfl | exact retO_int (by omega)
        · have HF : Hid (readN 1 t = 0 ∧ readE 1 t = 1) := Lib.hid (by have hG := HG.out; rw [if_neg (fun h => hX h.2)] at hG; exact hG)
          have hx := same_no hX
          clear HG hX
          go_wp2
          go_ret2
          refine ⟨?_, hB5⟩
          rw [HF.out.1, HF.out.2]
          rfl
      · have HF : Hid (readN 1 t = 0 ∧ readE 1 t = 1) := Lib.hid (by have hG := HG.out; rw [if_neg (fun h => hE h.1)] at hG; exact hG)
        clear HG
        go_wp2
        go_ret2
        refine ⟨?_, hB5⟩
        rw [HF.out.1, HF.out.2]
        rfl
end Go.Proofs.YtbbbeldbhlehnaaGreatDoor
end
