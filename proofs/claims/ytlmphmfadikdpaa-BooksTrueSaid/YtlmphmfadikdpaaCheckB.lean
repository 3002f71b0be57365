/- The walk of books.Check. -/
import Derived.Test.YtlmphmfadikdpaaCheckR
import Derived.Test.YtlmphmfadikdpaaCount
set_option linter.unusedVariables false
namespace Go.Proofs.Ytlmphmfadikdpaa
open Go.RowKit Gno Go.Maps Go.WideMaps
theorem locs_take {bs : List Bk} {i : Nat} {q : Bk} (h : bs[i]? = some q) : (locs bs)[i]? = some q.loc ∧ (locs bs).take (i + 1) = (locs bs).take i ++ [q.loc] := by
  have h1 : (locs bs)[i]? = some q.loc := by simp [locs, h]
  exact ⟨h1, take_snoc' h1⟩
theorem manyB {bs : List Bk} {b : Bool} (h : hasP manyPairs bs = b) : anyI (fun _ => manyPairs) bs = b := by rw [anyI_any, ← hasP_any]; exact h
/-- what stood ahead of the i-th key. -/
def LastIs (ps : List Pr) (i : Nat) (last : ByteArray) : Prop := (i = 0 ∧ last = ⟨#[]⟩) ∨ ∃ j a, i = j + 1 ∧ ps[j]? = some a ∧ last = a.key
theorem less_none {a : ByteArray} (h : 1 ≤ a.size) : lessB ⟨#[]⟩ a = true := by
  unfold lessB
  rw [ByteArray.toList_eq, ByteArray.toList_eq]
  show Op.bytesLess [] a.data.toList = true
  have hl : a.data.toList.length = a.size := by simp
  cases hd : a.data.toList
  · rw [hd] at hl; simp at hl; omega
  · rfl
theorem fall_last {ps : List Pr} {i : Nat} {last : ByteArray} {r : Pr} (h : LastIs ps i last) (hr : ps[i]? = some r) (hs : 1 ≤ r.key.size) : fallAt ps i = !lessB last r.key := by
  rcases h with ⟨rfl, rfl⟩ | ⟨j, a, rfl, ha, rfl⟩
  · rw [less_none hs]; rfl
  · exact fallAt_succ ha hr
theorem le_cases {a b : ByteArray} (h : lessB b a = false) : (Op.bytesLess a.toList b.toList = true) ∨ (Op.bytesLess a.toList b.toList = false ∧ (a.toList == b.toList) = true) := by
  have := less_or a b
  rw [h] at this
  cases h1 : Op.bytesLess a.toList b.toList
  · rw [h1] at this; exact .inr ⟨rfl, by simpa using this⟩
  · exact .inl rfl
theorem gt_both {a b : ByteArray} (h : lessB b a = true) : Op.bytesLess a.toList b.toList = false ∧ (a.toList == b.toList) = false := by
  have := less_or a b
  rw [h] at this
  simpa using this
/-- a book in a box, and what lies there later. -/
theorem box3 {w w1 : World} {a b c : Value} {T : TypeId} (hb : Below (w.heap.size + 1) (w.alloc (.cells #[a, b, c] T)) w1) :
    w1.cell? ⟨w.heap.size, 0, none⟩ = some a ∧ w1.cell? ⟨w.heap.size, 1, none⟩ = some b ∧ w1.cell? ⟨w.heap.size, 2, none⟩ = some c := by
  refine ⟨(hb.cell (p := ⟨w.heap.size, 0, none⟩) (by simp)).trans (by simp), (hb.cell (p := ⟨w.heap.size, 1, none⟩) (by simp)).trans (by simp), (hb.cell (p := ⟨w.heap.size, 2, none⟩) (by simp)).trans (by simp)⟩

theorem cnt_put {D : DataW Unit} {l : List ByteArray} {v : ByteArray} {m : Nat} {c : Int} (h : Cnt D l) (hi : IsMap D) (hm : cntN v l = m) (hat : (D.put (.string v.data.toList) (.lit (.int .i64 ((m : Int) + 1)))).atKey (.string v.data.toList) (.lit (.int .i64 0)) = .lit (.int .i64 c)) : c = (m : Int) + 1 := by
  rw [atKey_put_same hi (show Go.WideAt.IsKeyLit (.string v.data.toList) from trivial)] at hat
  injection hat with h1
  injection h1 with _ h2
  exact h2.symm

theorem anyI_false {α : Type} {p : α → Bool} {l : List α} {i : Nat} {x : α} (h : anyI (fun _ => p) l = false) (hx : l[i]? = some x) : p x = false := by
  cases hp : p x
  · rfl
  · rw [anyI_yes (p := fun _ => p) hx hp] at h; cases h
theorem badBook_key {q : Bk} {i : Nat} {r : Pr} (h : badBook q = false) (hr : q.ps[i]? = some r) : 1 ≤ r.key.size := by
  unfold badBook at h
  rw [Bool.or_eq_false_iff, hasP_any, List.any_eq_false] at h
  have := h.2 r (List.mem_of_getElem? hr)
  unfold badPair at this
  false_or_by_contra
  rename_i hn
  rw [nameOk_size r.key (by omega)] at this
  simp at this

set_option maxRecDepth 100000 in
set_option maxHeartbeats 8000000 in
theorem checkB_any (A : Option Addr) (n cap : Nat) (bs : List Bk) (w : World) (hR : BooksAt w w.heap.size A n bs) :
    Calls Try.prog 33 #[.slice A n cap] w fun e w' => e = .returned (.int .i64 (booksE bs)) ∧ Below w.heap.size w w' := by
  have hmm := @run_makeMap Try.prog
  have hmf : ∀ (fn : Fn) (first cap : Array Value) (w : World), (Instr.makeFunc fn first cap).run Try.prog w = .ok (.func fn first cap) w := fun _ _ _ _ => rfl
  have hn : n ≤ 9223372036854775807 := hR.2.1
  have hlen := hR.1
  have HLE := Lib.hid hlen
  clear hlen
  have HR := Lib.hid hR
  clear hR
  by_cases h4 : 4 < n
  · have HX := Lib.hid (booksE_long (bs := bs) (by rw [HLE.out]; exact h4))
    have h4b : decide ((4 : Int) < (n : Int)) = true := by simp; omega
    go_enter Try.func33, Try.ntmps33
    go_wp2
    go_ret
    exact ⟨ret_int HX.out.symm, Below.refl _ _⟩
  have h4b : decide ((4 : Int) < (n : Int)) = false := by simp; omega
  have HL4 := Lib.hid (show ¬ 4 < bs.length by rw [HLE.out]; exact h4)
  have C1 := containsB_any 57 #[] (enters_of Try.func57 (by kernel_rfl) rfl) manyPairs A n cap bs w HR.out (fun W k hk hb => many_any k W)
  cases hmp : hasP manyPairs bs
  · rw [hmp] at C1
    have C := Lib.hid C1
    have HM := Lib.hid (manyB hmp)
    clear C1 hmp
    go_enter Try.func33, Try.ntmps33
    go_wp2_with (go_at_call 56; (with_reducible refine C.out.mono ?_); rintro e w4 ⟨rfl, hb4⟩)
    go_loopw [22] (fun b22 wr => ∃ i : Nat, i ≤ n ∧ b22 = .int .i64 i ∧ Hid (anyTo (atI (fun _ => badBook) bs) i = false) ∧ Below w.heap.size w wr) (fun b22 _ => n - (intOf b22).toNat)
    case atStart => exact ⟨0, Nat.zero_le _, rfl, Lib.hid rfl, hb4⟩
    case round =>
      obtain ⟨k, hk, rfl, hfk, hb⟩ := hrel
      by_cases hkt : k < n
      · obtain ⟨b, o, q, rfl, hbB, hq, hq1, hq2⟩ := HR.out.get hkt
        have HB := Lib.hid hq2
        have HQ := Lib.hid hq
        obtain ⟨e0, e1, e2⟩ := (hq2 _ hb).1
        clear hq hq2
        have hb1 : Below w.heap.size w (wr.alloc (.cells #[.string q.loc, .int .i64 q.par, .slice q.A q.n q.cap] 49)) := hb.alloc hb.size _
        have NA1 := name_any q.loc (wr.alloc (.cells #[.string q.loc, .int .i64 q.par, .slice q.A q.n q.cap] 49)) hq1
        have HBX := Lib.hid hb1
        cases hnm : nameOk q.loc
        · rw [hnm] at NA1
          have NA := Lib.hid NA1
          have HX := Lib.hid (booksE_name HL4.out HM.out (anyI_yes (p := fun _ => badBook) HQ.out (by unfold badBook; rw [hnm]; rfl)))
          clear hnm hq1 hfk NA1 hb1
          go_wp2_with (go_at_call 58; (with_reducible refine NA.out.mono ?_); rintro e w5 ⟨rfl, hb5⟩)
          go_ret
          exact ⟨ret_int HX.out.symm, HBX.out.trans (hb5.mono HBX.out.size)⟩
        · rw [hnm] at NA1
          have NA := Lib.hid NA1
          have HN := Lib.hid hnm
          have HPB : Hid (∀ W, Below w.heap.size w W → Calls Try.prog 59 #[.slice q.A q.n q.cap, .func (.func 60) #[] #[]] W fun e w' => e = .returned (.bool (hasP badPair q.ps)) ∧ Below W.heap.size W w') := Lib.hid (fun W hW =>
            containsP_any 60 #[] (enters_of Try.func60 (by kernel_rfl) rfl) badPair q.A q.n q.cap q.ps W (((HB.out W hW).2).more hW.size) (fun W2 k hk hb => badPair_any k W2 (by
              obtain ⟨j, hj⟩ := List.getElem?_of_mem hk
              have hps := (HB.out W hW).2
              have hjl : j < q.n := by have := (List.getElem?_eq_some_iff.1 hj).1; rw [hps.1] at this; exact this
              obtain ⟨_, _, r, _, _, hr, hr1, _⟩ := hps.get hjl
              rw [hj] at hr
              injection hr with hr
              rw [hr]; exact hr1)))
          clear hnm hq1 NA1 hb1
          cases hbp : hasP badPair q.ps
          · rw [hbp] at HPB
            have HX := Lib.hid (anyI_no (p := fun _ => badBook) HQ.out hfk.out (by unfold badBook; rw [HN.out, hbp]; rfl))
            clear hbp hfk
            go_wp2_with (first
              | (go_at_call 58; (with_reducible refine NA.out.mono ?_); rintro e w5 ⟨rfl, hb5⟩; simp only [World.size_alloc] at hb5; obtain ⟨g0, g1, g2⟩ := box3 hb5; have hb6 := HBX.out.trans (hb5.mono (by have := HBX.out.size; simp at this; exact this)); clear hb5)
              | (go_at_call 59; (with_reducible refine (HPB.out _ hb6).mono ?_); rintro e w7 ⟨rfl, hb7⟩; have hb8 := hb6.trans (hb7.mono hb6.size); clear hb7))
            go_roundw
            case rel => exact ⟨k + 1, by omega, by go_num, HX, hb8⟩
            case measure => simp [intOf]; omega
          · rw [hbp] at HPB
            have HX := Lib.hid (booksE_name HL4.out HM.out (anyI_yes (p := fun _ => badBook) HQ.out (by unfold badBook; rw [hbp]; simp)))
            clear hbp hfk
            go_wp2_with (first
              | (go_at_call 58; (with_reducible refine NA.out.mono ?_); rintro e w5 ⟨rfl, hb5⟩; simp only [World.size_alloc] at hb5; obtain ⟨g0, g1, g2⟩ := box3 hb5; have hb6 := HBX.out.trans (hb5.mono (by have := HBX.out.size; simp at this; exact this)); clear hb5)
              | (go_at_call 59; (with_reducible refine (HPB.out _ hb6).mono ?_); rintro e w7 ⟨rfl, hb7⟩; have hb8 := hb6.trans (hb7.mono hb6.size); clear hb7))
            go_ret
            exact ⟨ret_int HX.out.symm, hb8⟩
      · have HN := Lib.hid (anyI_end (by rw [HLE.out]; omega) (by rw [HLE.out]; exact hk) hfk.out)
        clear hb4 hfk
        obtain ⟨wa, hwa⟩ : ∃ wa : World, wa = wr := ⟨_, rfl⟩
        rw [← hwa] at hb
        rw [← hwa]
        clear hwa
        have hb0 : Below w.heap.size w (wa.alloc (.map #[] 0)) := hb.alloc hb.size _
        have hza := hb.size
        clear hb
        go_wp2
        go_loopw [39] (fun b39 wr => ∃ (i : Nat) (D : DataW Unit), i ≤ n ∧ b39 = .int .i64 i ∧ Hid (dupTo (locs bs) i = false) ∧ Hid (anyTo (atI (fun _ => fallsB) bs) i = false) ∧ Hid (Cnt D ((locs bs).take i)) ∧
          wr.ownsMap Try.prog 9 (plainElem Try.prog 3) wa.heap.size i D ∧ Below w.heap.size w wr) (fun b39 _ => n - (intOf b39).toNat)
        case atStart => exact ⟨0, .map [], Nat.zero_le _, rfl, Lib.hid rfl, Lib.hid rfl, Lib.hid Cnt.start, World.ownsMap_made _ _ _ _, hb0⟩
        case round =>
          clear hb0
          obtain ⟨k, D, hk, rfl, hdu, hfk, HC, hown, hb⟩ := hrel
          by_cases hkt : k < n
          · obtain ⟨b, o, q, rfl, hbB, hq, hq1, hq2⟩ := HR.out.get hkt
            have HB := Lib.hid hq2
            have HQ := Lib.hid hq
            obtain ⟨e0, e1, e2⟩ := (hq2 _ hb).1
            have HLT := Lib.hid (locs_take hq)
            clear hq hq2
            obtain ⟨m, hm⟩ : ∃ m, m = cntN q.loc ((locs bs).take k) := ⟨_, rfl⟩
            have hm4 : m ≤ 4 := by
              have := cntN_le q.loc ((locs bs).take k)
              have h2 : ((locs bs).take k).length ≤ k := List.length_take_le _ _
              omega
            have HMM := Lib.hid hm.symm
            have HAM := Lib.hid (among_cnt (l := locs bs) (v := q.loc) (i := k))
            have hlt := hown.lt
            have HKEY := Lib.hid (keyOf_string_mk (P := Try.prog) Try.underlying9 hq1)
            have HG : Hid (∀ w1, (wr.alloc (.cells #[.string q.loc, .int .i64 q.par, .slice q.A q.n q.cap] 49)).grownBy w1 (some wa.heap.size) → Below w.heap.size w w1 ∧ wr.heap.size + 1 ≤ w1.heap.size ∧
                w1.cell? ⟨wr.heap.size, 0, none⟩ = some (.string q.loc) ∧ w1.cell? ⟨wr.heap.size, 2, none⟩ = some (.slice q.A q.n q.cap)) := Lib.hid (fun w1 hg => by
              have hz := hb.size
              refine ⟨(hb.alloc hz _).grown hg (by simp; omega) (fun j hj => by cases hj; omega), by have := hg.size; simp at this; omega, hg.cell (by simp) (by simp; omega), hg.cell (by simp) (by simp; omega)⟩)
            clear hm hq1
            by_cases hm1 : 1 ≤ m
            · have HX := Lib.hid (booksE_dup HL4.out HM.out HN.out (dup_yes (i := k) (m := k) HLT.out.1 (Nat.le_refl _) (by rw [HAM.out, HMM.out]; simp; omega)))
              have tok1 : True := trivial
              go_wp2_with (first
                | (at_lookup; have _t := tok1; go_must (refine wpList_lookup_own_int _ rfl _ _ 73 rfl 9 3 .i64 lawStr Try.underlying73 Try.underlying3 (zeroInt _) wa.heap.size k _ rfl (hown.alloc _) _ _ rfl HKEY.out ?_); intro c hat hwc; obtain rfl := cnt_at HC.out HMM.out hat; clear tok1 hat hwc _t)
                | (at_mapUpdate; go_must (refine wpList_mapUpdate_own _ rfl _ _ _ 73 rfl 9 3 lawStr Try.underlying73 _ wa.heap.size k _ rfl (hown.alloc _) (by unfold maxLen; omega) _ _ _ rfl rfl HKEY.out _ [] (plainElem_int Try.underlying3 (WalkArith.wf_i64 (by omega))) ?_); intro w1 hown1 hgrow1; obtain ⟨hb1, hz1, g0, g2⟩ := HG.out _ hgrow1; clear hgrow1)
                | (at_lookup; go_must (refine wpList_lookup_own_int _ rfl _ _ 73 rfl 9 3 .i64 lawStr Try.underlying73 Try.underlying3 (zeroInt _) wa.heap.size (k + 1) _ rfl hown1 _ _ rfl HKEY.out ?_); intro c hat hwc; obtain rfl := cnt_put HC.out hown.isMap HMM.out hat; clear hat hwc)
                | go_in)
              go_ret
              exact ⟨ret_int HX.out.symm, hb1⟩
            · obtain rfl : m = 0 := by omega
              have HDU := Lib.hid (dupTo_no HLT.out.1 hdu.out (by rw [HAM.out, HMM.out]; rfl))
              have HP := Lib.hid ((HB.out _ (Below.refl _ _)).2)
              have hqn : q.n ≤ 9223372036854775807 := HP.out.2.1
              have HBB : Hid (badBook q = false) := Lib.hid (anyI_false HN.out HQ.out)
              have tok1 : True := trivial
              go_wp2_with (first
                | (at_lookup; have _t := tok1; go_must (refine wpList_lookup_own_int _ rfl _ _ 73 rfl 9 3 .i64 lawStr Try.underlying73 Try.underlying3 (zeroInt _) wa.heap.size k _ rfl (hown.alloc _) _ _ rfl HKEY.out ?_); intro c hat hwc; obtain rfl := cnt_at HC.out HMM.out hat; clear tok1 hat hwc _t)
                | (at_mapUpdate; go_must (refine wpList_mapUpdate_own _ rfl _ _ _ 73 rfl 9 3 lawStr Try.underlying73 _ wa.heap.size k _ rfl (hown.alloc _) (by unfold maxLen; omega) _ _ _ rfl rfl HKEY.out _ [] (plainElem_int Try.underlying3 (WalkArith.wf_i64 (by omega))) ?_); intro w1 hown1 hgrow1; obtain ⟨hb1, hz1, g0, g2⟩ := HG.out _ hgrow1; clear hgrow1)
                | (at_lookup; go_must (refine wpList_lookup_own_int _ rfl _ _ 73 rfl 9 3 .i64 lawStr Try.underlying73 Try.underlying3 (zeroInt _) wa.heap.size (k + 1) _ rfl hown1 _ _ rfl HKEY.out ?_); intro c hat hwc; obtain rfl := cnt_put HC.out hown.isMap HMM.out hat; clear hat hwc)
                | go_in)
              have HC1 : Hid (Cnt (D.put (.string q.loc.data.toList) (.lit (.int .i64 ((0 : Nat) + 1 : Int)))) ((locs bs).take (k + 1))) := Lib.hid (by
                have := HC.out.put hown.isMap q.loc
                rw [HMM.out] at this
                rw [HLT.out.2]; exact this)
              obtain ⟨wo, hwo⟩ : ∃ wo : World, wo = wr := ⟨_, rfl⟩
              rw [← hwo] at g0 g2 hz1
              rw [← hwo]
              clear hb hown HG hlt e0 e1 e2 hwo
              go_loopw [8, 56] (fun b8 b56 wr2 => ∃ (i : Nat) (last : ByteArray), i ≤ q.n ∧ b56 = .int .i64 i ∧ b8 = .string last ∧ Hid (LastIs q.ps i last) ∧ Hid (anyTo (fallAt q.ps) i = false) ∧ Below w1.heap.size w1 wr2) (fun _ b56 _ => q.n - (intOf b56).toNat)
              case atStart => exact ⟨0, ⟨#[]⟩, Nat.zero_le _, rfl, rfl, Lib.hid (.inl ⟨rfl, rfl⟩), Lib.hid rfl, Below.refl _ _⟩
              case round =>
                obtain ⟨i, last, hi, rfl, rfl, hla, hfi, hb2⟩ := hrel
                have hbi : Below w.heap.size w wr := hb1.trans (hb2.mono hb1.size)
                by_cases hit : i < q.n
                · obtain ⟨c, f, r, hA, hcB, hr, hr1, hr2, hr3⟩ := HP.out.get hit
                  obtain ⟨d0, d1⟩ := hr3 _ hbi
                  have FA := Lib.hid (fall_last hla.out hr (badBook_key HBB.out hr))
                  have HRR := Lib.hid hr
                  have hA2 := Lib.hid hA
                  clear hr hr3 hA
                  cases hls : lessB last r.key
                  · have HX := Lib.hid (booksE_fall HL4.out HM.out HN.out (anyI_yes (p := fun _ => fallsB) HQ.out (anyTo_yes (n := q.ps.length) (by rw [HP.out.1]; exact hit) (by rw [FA.out, hls]; rfl))))
                    have hle := le_cases hls
                    clear hls FA hfi
                    rw [hA2.out]
                    rcases hle with hl1 | ⟨hl1, hl2⟩
                    all_goals
                      go_wp2
                      go_ret
                      exact ⟨ret_int HX.out.symm, hbi.alloc hbi.size _⟩
                  · have HX := Lib.hid (anyTo_no hfi.out (by rw [FA.out, hls]; rfl))
                    obtain ⟨hl1, hl2⟩ := gt_both hls
                    clear hls FA hfi
                    rw [hA2.out]
                    go_wp2
                    go_roundw
                    case rel => exact ⟨i + 1, r.key, by omega, by go_num, rfl, Lib.hid (.inr ⟨i, r, rfl, HRR.out, rfl⟩), HX, hb2.alloc hb2.size _⟩
                    case measure => simp [intOf]; omega
                · have HX := Lib.hid (anyI_no (p := fun _ => fallsB) HQ.out hfk.out (by
                    have hps := HP.out.1
                    unfold fallsB
                    rw [hps, show q.n = i by omega]; exact hfi.out))
                  go_wp2
                  go_roundw
                  case rel => exact ⟨k + 1, _, by omega, by go_num, HDU, HX, HC1, hown1.below hb2 hown1.lt, hbi⟩
                  case measure => simp [intOf]; omega
          · have hin : k = n := by omega
            have HD : Hid (dup (locs bs) = false) := Lib.hid (by
              have h1 := hdu.out
              have h2 : (locs bs).length = k := by unfold locs; rw [List.length_map, HLE.out, hin]
              unfold dup
              rw [h2]; exact h1)
            have HF := Lib.hid (anyI_end (by rw [HLE.out]; omega) (by rw [HLE.out]; exact hk) hfk.out)
            clear hdu hfk HC hown hin
            go_wp2
            go_loopw [70] (fun b9 wr => ∃ i : Nat, i ≤ n ∧ b9 = .int .i64 i ∧ Hid (anyTo (atI badPar bs) i = false) ∧ Below w.heap.size w wr) (fun b9 _ => n - (intOf b9).toNat)
            case atStart => exact ⟨0, Nat.zero_le _, rfl, Lib.hid rfl, hb⟩
            case round =>
              obtain ⟨i, hi, rfl, hfi, hbi⟩ := hrel
              by_cases hit : i < n
              · obtain ⟨b, o, q, rfl, hbB, hq, hq1, hq2⟩ := HR.out.get hit
                have HQ := Lib.hid hq
                obtain ⟨e0, e1, e2⟩ := (hq2 _ hbi).1
                clear hq hq2
                by_cases hp1 : q.par < -1
                · have HX := Lib.hid (booksE_par HL4.out HM.out HN.out HD.out HF.out (anyI_yes HQ.out (by unfold badPar; simp [hp1])))
                  have hp1b : decide (q.par < -1) = true := by simpa using hp1
                  clear hfi
                  go_wp2
                  go_ret
                  exact ⟨ret_int HX.out.symm, hbi.alloc hbi.size _⟩
                · have hp1b : decide (q.par < -1) = false := by simpa using hp1
                  by_cases hp2 : (i : Int) ≤ q.par
                  · have HX := Lib.hid (booksE_par HL4.out HM.out HN.out HD.out HF.out (anyI_yes HQ.out (by unfold badPar; simp [hp2])))
                    have hp2b : decide ((i : Int) ≤ q.par) = true := by simpa using hp2
                    clear hfi
                    go_wp2
                    go_ret
                    exact ⟨ret_int HX.out.symm, hbi.alloc hbi.size _⟩
                  · have HX := Lib.hid (anyI_no (p := badPar) HQ.out hfi.out (by unfold badPar; simp; omega))
                    have hp2b : decide ((i : Int) ≤ q.par) = false := by simpa using hp2
                    clear hfi
                    go_wp2
                    go_roundw
                    case rel => exact ⟨i + 1, by omega, by go_num, HX, hbi.alloc hbi.size _⟩
                    case measure => simp [intOf]; omega
              · have HX := Lib.hid (booksE_ok HL4.out HM.out HN.out HD.out HF.out (anyI_end (by rw [HLE.out]; omega) (by rw [HLE.out]; exact hi) hfi.out))
                go_wp2
                go_ret
                exact ⟨ret_int HX.out.symm, hbi⟩
  · rw [hmp] at C1
    have C := Lib.hid C1
    have HX := Lib.hid (booksE_many HL4.out (manyB hmp))
    clear C1 hmp
    go_enter Try.func33, Try.ntmps33
    go_wp2_with (go_at_call 56; (with_reducible refine C.out.mono ?_); rintro e w4 ⟨rfl, hb4⟩)
    go_ret
    exact ⟨ret_int HX.out.symm, hb4⟩
end Go.Proofs.Ytlmphmfadikdpaa
