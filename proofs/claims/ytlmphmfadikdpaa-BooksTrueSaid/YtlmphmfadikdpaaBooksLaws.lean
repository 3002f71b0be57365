/- The walks of BooksTells and BooksTrue. -/
import Derived.Test.YtlmphmfadikdpaaBooksBegun
import Derived.Test.YtlmphmfadikdpaaBooksTruePlain
import Derived.Test.YtlmphmfadikdpaaChoose
set_option linter.unusedVariables false
namespace Go.Proofs.Ytlmphmfadikdpaa
open Go.RowKit Gno

set_option maxRecDepth 100000 in
set_option maxHeartbeats 4000000 in
theorem booksTells_walk (A : Option Addr) (n cap : Nat) (bs : List Bk) (loc key : ByteArray) (w : World) (hR : BooksAt w w.heap.size A n bs) :
    Calls Try.prog 9 #[.slice A n cap, .string loc, .string key] w fun e w' => e = .returned (.bool true) ∧ Below w.heap.size w w' := by
  have TX := Lib.hid (fun w h => text_any A n cap bs loc key w h)
  have TR := Lib.hid (fun w h => textR_any A n cap bs loc key w h)
  have CB := Lib.hid (fun w h => checkB_any A n cap bs w h)
  have CR := Lib.hid (fun w h => checkR_any A n cap bs w h)
  have HR := Lib.hid hR
  have NX : Hid (∀ {W : World}, Below w.heap.size w W → BooksAt W W.heap.size A n bs) := Lib.hid (fun h => (HR.out.below h (Nat.le_refl _)).more h.size)
  clear hR
  go_enter Try.func9, Try.ntmps9
  go_wp2_with fail
  refine (TX.out _ HR.out).mono ?_
  rintro e w1 ⟨rfl, hb1⟩
  go_wp2_with fail
  refine (TR.out _ (NX.out hb1)).mono ?_
  rintro e w2 ⟨rfl, hb2⟩
  have h2 : Below w.heap.size w w2 := hb1.trans (hb2.mono hb1.size)
  clear hb1 hb2
  go_wp2_with fail
  refine (booksBegun_any _).mono ?_
  rintro e w3 ⟨rfl, hb3⟩
  have h3 : Below w.heap.size w w3 := h2.trans (hb3.mono h2.size)
  clear h2 hb3
  go_wp2_with fail
  refine (CB.out _ (NX.out h3)).mono ?_
  rintro e w4 ⟨rfl, hb4⟩
  have h4 : Below w.heap.size w w4 := h3.trans (hb4.mono h3.size)
  clear h3 hb4
  go_wp2_with fail
  refine (CR.out _ (NX.out h4)).mono ?_
  rintro e w5 ⟨rfl, hb5⟩
  have h5 : Below w.heap.size w w5 := h4.trans (hb5.mono h4.size)
  clear h4 hb5
  go_wp2
  go_ret
  exact ⟨rfl, h5⟩

set_option maxRecDepth 100000 in
set_option maxHeartbeats 8000000 in
theorem booksTrue_walk (A : Option Addr) (n cap : Nat) (bs : List Bk) (ix : Int) (key : ByteArray) (w : World) (hR : BooksAt w w.heap.size A n bs) (hix : (Lit.int .i64 ix).wf = true) :
    Calls Try.prog 10 #[.slice A n cap, .int .i64 ix, .string key] w fun e w' => e = .returned (.bool true) ∧ Below w.heap.size w w' := by
  have CB := Lib.hid (checkB_any A n cap bs w hR)
  have TX := Lib.hid (fun w loc h => text_any A n cap bs loc key w h)
  have HR := Lib.hid hR
  have NX : Hid (∀ {W : World}, Below w.heap.size w W → BooksAt W W.heap.size A n bs) := Lib.hid (fun h => (HR.out.below h (Nat.le_refl _)).more h.size)
  have hn : n ≤ 9223372036854775807 := hR.2.1
  clear hR
  by_cases h0 : booksE bs = 0
  · have H0 := Lib.hid h0
    rw [h0] at CB
    clear h0
    by_cases hz : n = 0
    · subst hz
      go_enter Try.func10, Try.ntmps10
      go_wp2_with fail
      refine CB.out.mono ?_
      rintro e w1 ⟨rfl, hb1⟩
      go_wp2_with fail
      refine (booksBegun_any _).mono ?_
      rintro e w2 ⟨rfl, hb2⟩
      go_wp2
      go_ret
      exact ⟨rfl, hb1.trans (hb2.mono hb1.size)⟩
    · have h1 : 1 ≤ (n : Int) := by omega
      have hzb : ((n : Int) == 0) = false := by simp; omega
      have h4 : n ≤ 4 := by have := (booksE_zero H0.out).1; rw [HR.out.1] at this; exact this
      obtain ⟨c, hc⟩ : ∃ c, c = chooseN ix n := ⟨_, rfl⟩
      have hcb := chooseN_bd ix n h1
      have CH : Hid (∀ w, Calls Try.prog 29 #[.int .i64 ix, .int .i64 n] w fun e w' => e = .returned (.int .i64 c) ∧ w = w') := Lib.hid (fun w => by rw [hc]; exact choose_any ix n w hix h1 (by omega))
      rw [← hc] at hcb
      clear hc hix
      obtain ⟨k, rfl⟩ : ∃ k : Nat, c = (k : Int) := ⟨c.toNat, by omega⟩
      have hkn : k < n := by omega
      obtain ⟨b, o, q, rfl, hbB, hq, hq1, hq2⟩ := BooksAt.get HR.out hkn
      have HB := Lib.hid hq2
      have HQ := Lib.hid hq
      clear hq hq2
      have TA := Lib.hid (text_at (key := key) H0.out HQ.out)
      obtain ⟨S, hS⟩ : ∃ S, S = (lookB bs key (k : Int)).1 := ⟨_, rfl⟩
      have hne := lookB_ne bs key (k : Int)
      rw [← hS] at hne
      have TQ : Hid (∀ w, BooksAt w w.heap.size (some ⟨b, o, none⟩) n bs → Calls Try.prog 30 #[.slice (some ⟨b, o, none⟩) n cap, .string q.loc, .string key] w fun e w' => e = .returned (.tuple #[.string S, .bool (!S.toList.isEmpty), .int .i64 0]) ∧ Below w.heap.size w w') := Lib.hid (fun w h => by
        have := TX.out w q.loc h
        rw [TA.out.1, TA.out.2.1, TA.out.2.2.1, hne, ← hS] at this
        exact this)
      have HS : Hid (S = (inPairs key (lookB bs key q.par) q.ps).1) := Lib.hid (by rw [hS, TA.out.2.2.2])
      clear hne hS
      have hpar := parOk_of H0.out k q HQ.out
      obtain ⟨hp1, hp2⟩ := hpar
      have hp3 : q.par < n := by omega
      have HP := Lib.hid ((HB.out _ (Below.refl _ _)).2)
      have hqn : q.n ≤ 9223372036854775807 := HP.out.2.1
      have hbox : ∀ W, Below w.heap.size w W → Below w.heap.size w (W.alloc (.cells #[.string q.loc, .int .i64 q.par, .slice q.A q.n q.cap] 49)) := fun W h => h.alloc h.size _
      have HBX := Lib.hid hbox
      have HSE : Hid (q.par < 0 → S.toList.isEmpty = true ∨ ∃ (j : Nat) (p : Pr), q.ps[j]? = some p ∧ isKey key p = true) := Lib.hid (fun h => by
        by_cases hx : ∃ (j : Nat) (p : Pr), q.ps[j]? = some p ∧ isKey key p = true
        · exact .inr hx
        · refine .inl ?_
          have hnk : ∀ i : Nat, i ≤ q.ps.length → noKeyTo key q.ps i := by
            intro i
            induction i with
            | zero => intro _ r; simp
            | succ i ih =>
              intro hi
              have hp : q.ps[i]? = some q.ps[i] := List.getElem?_eq_getElem (by omega)
              exact noKey_step (ih (by omega)) hp (by
                cases hk : isKey key q.ps[i]
                · rfl
                · exact absurd ⟨i, _, hp, hk⟩ hx)
          have := noKey_end (hnk q.ps.length (Nat.le_refl _)) (by omega) (lookB bs key q.par)
          rw [HS.out, this, look_neg h]
          have := noText_ne
          simpa using this)
      clear hbox
      cases hE : S.toList.isEmpty
      all_goals
        have hE2 : (S.toList == []) = S.toList.isEmpty := by cases S.toList <;> rfl
        rw [hE] at hE2
        rw [hE] at TQ
        have TP : Hid (∀ (p : Bk) w, bs[q.par.toNat]? = some p → 0 ≤ q.par → S = (lookB bs key q.par).1 → BooksAt w w.heap.size (some ⟨b, o, none⟩) n bs → Calls Try.prog 30 #[.slice (some ⟨b, o, none⟩) n cap, .string p.loc, .string key] w fun e w' => e = .returned (.tuple #[.string S, .bool (!S.toList.isEmpty), .int .i64 0]) ∧ Below w.heap.size w w') := Lib.hid (fun p w hp h0 hS h => by
          have := TX.out w p.loc h
          have ta := text_at (key := key) H0.out hp
          have hpi : ((q.par.toNat : Nat) : Int) = q.par := by omega
          rw [hpi] at ta
          rw [ta.1, ta.2.1, ta.2.2.1, lookB_ne bs key q.par, ← hS] at this
          exact this)
        rw [hE] at TP
        have HE := Lib.hid hE
        clear TX
        go_enter Try.func10, Try.ntmps10
        go_wp2_with fail
        refine CB.out.mono ?_
        rintro e w1 ⟨rfl, hb1⟩
        obtain ⟨e0, e1, e2⟩ := (HB.out _ hb1).1
        go_wp2_with fail
        refine (CH.out _).mono ?_
        rintro e w1' ⟨rfl, rfl⟩
        go_wp2_with fail
        have hb1' := HBX.out _ hb1
        refine (TQ.out _ (NX.out hb1')).mono ?_
        rintro e w2 ⟨rfl, hb2⟩
        simp only [World.size_alloc] at hb2
        have h2 : Below w.heap.size w w2 := hb1'.trans (hb2.mono (by have := hb1.size; omega))
        obtain ⟨g0, g1, g2⟩ := box3 hb2
        have hz12 : w1.heap.size < w2.heap.size := by have := hb2.size; simp at this; omega
        clear hb1' e0 e1 e2 hb2
        go_wp2_with fail
        go_loopw [11] (fun b11 wr => ∃ i : Nat, i ≤ q.n ∧ b11 = .int .i64 i ∧ Hid (noKeyTo key q.ps i) ∧ Below w2.heap.size w2 wr) (fun b11 _ => q.n - (intOf b11).toNat)
        case atStart => exact ⟨0, Nat.zero_le _, rfl, Lib.hid (fun r => by simp), Below.refl _ _⟩
        case round =>
          obtain ⟨i, hi, rfl, hnk, hb3⟩ := hrel
          have h3 : Below w.heap.size w wr := h2.trans (hb3.mono h2.size)
          have f0 := (hb3.cell (p := ⟨w1.heap.size, 0, none⟩) hz12).trans g0
          have f1 := (hb3.cell (p := ⟨w1.heap.size, 1, none⟩) hz12).trans g1
          have f2 := (hb3.cell (p := ⟨w1.heap.size, 2, none⟩) hz12).trans g2
          clear g0 g1 g2
          by_cases hit : i < q.n
          · obtain ⟨c, f, r, hA, hcB, hr, hr1, hr2, hr3⟩ := HP.out.get hit
            obtain ⟨d0, d1⟩ := hr3 _ h3
            have HR3 := Lib.hid hr3
            have HRR := Lib.hid hr
            rw [hA] at f2
            clear hr hr3 hA
            cases hpk : isKey key r
            · have HX := Lib.hid (noKey_step hnk.out HRR.out hpk)
              have hs : (r.key.toList == key.toList) = false := hpk
              clear hpk hnk
              go_wp2
              go_roundw
              case rel => exact ⟨i + 1, by omega, by go_num, HX, hb3⟩
              case measure => simp [intOf]; omega
            · have hST : S = r.text := by rw [HS.out]; exact noKey_hit hnk.out HRR.out hpk _
              have hs : (r.key.toList == key.toList) = true := hpk
              have HR4 := Lib.hid (fun W hW => show W.cell? ⟨c, f + i * 2 + 1, none⟩ = some (.string S) ∧ W.cell? ⟨c, f + i * 2, none⟩ = some (.string r.key) from ⟨by rw [hST]; exact (HR3.out W hW).2, (HR3.out W hW).1⟩)
              clear hpk hnk hST d1 HR3
              go_wp2_with fail
              refine (booksBegun_any _).mono ?_
              rintro e w4 ⟨rfl, hb4⟩
              have h4' : Below w.heap.size w w4 := h3.trans (hb4.mono h3.size)
              have hz13 : w1.heap.size < wr.heap.size := Nat.lt_of_lt_of_le hz12 hb3.size
              have j2 := (hb4.cell (p := ⟨w1.heap.size, 2, none⟩) hz13).trans f2
              obtain ⟨k0, k1⟩ := HR4.out _ h4'
              clear f0 f1 f2 d0
              go_wp2
              go_ret
              exact ⟨rfl, h4'⟩
          · have hNE : Hid (S = (lookB bs key q.par).1) := Lib.hid (by rw [HS.out]; exact congrArg (fun x => x.1) (noKey_end hnk.out (by have := HP.out.1; omega) _))
            clear hnk
            by_cases hpn : q.par < 0
            · have hSE : S = noText := by rw [hNE.out, look_neg hpn]
              have hbad := HE.out
              rw [hSE] at hbad
              have hnt := noText_ne
              first
                | (exfalso; rw [hbad] at hnt; simp at hnt; done)
                | (have hpb : decide (q.par < 0) = true := by simpa using hpn
                   clear hSE hbad hnt
                   go_wp2_with fail
                   refine (booksBegun_any _).mono ?_
                   rintro e w4 ⟨rfl, hb4⟩
                   go_wp2
                   go_ret
                   exact ⟨rfl, h3.trans (hb4.mono h3.size)⟩)
            · have hpb : decide (q.par < 0) = false := by simpa using hpn
              have hpc : decide ((n : Int) ≤ q.par) = false := by simp; omega
              obtain ⟨b', o', p, hA', hbB', hp, hp1', hp2'⟩ := BooksAt.get HR.out (i := q.par.toNat) (by omega)
              obtain ⟨rfl, rfl⟩ : b = b' ∧ o = o' := by simpa using hA'
              obtain ⟨d0, d1, d2⟩ := (hp2' _ h3).1
              have TPP := Lib.hid (fun w h => TP.out p w hp (by omega) hNE.out h)
              clear hp hp2' hA' TP
              go_wp2_with fail
              refine (TPP.out _ (NX.out h3)).mono ?_
              rintro e w4 ⟨rfl, hb4⟩
              have h4' : Below w.heap.size w w4 := h3.trans (hb4.mono h3.size)
              clear hb4
              go_wp2_with fail
              refine (booksBegun_any _).mono ?_
              rintro e w5 ⟨rfl, hb5⟩
              go_wp2
              go_ret
              exact ⟨rfl, h4'.trans (hb5.mono h4'.size)⟩
  · have hb0 : (booksE bs != 0) = true := by simpa using h0
    clear h0
    go_enter Try.func10, Try.ntmps10
    go_wp2_with fail
    refine CB.out.mono ?_
    rintro e w1 ⟨rfl, hb1⟩
    go_wp2_with fail
    refine (booksBegun_any _).mono ?_
    rintro e w2 ⟨rfl, hb2⟩
    go_wp2
    go_ret
    exact ⟨rfl, hb1.trans (hb2.mono hb1.size)⟩
end Go.Proofs.Ytlmphmfadikdpaa
