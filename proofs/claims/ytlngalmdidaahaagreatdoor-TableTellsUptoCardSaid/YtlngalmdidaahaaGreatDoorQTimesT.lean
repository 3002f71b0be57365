/- Laid together: Times6, Times7, LawTurns. -/
import Derived.Test.YtlngalmdidaahaaGreatDoorMUMostP0
import Derived.Test.YtlngalmdidaahaaGreatDoorMUMostP1
import Derived.Test.YtlngalmdidaahaaGreatDoorMUMostP2
import Derived.Test.YtlngalmdidaahaaGreatDoorMUMostP3
import Derived.Test.YtlngalmdidaahaaGreatDoorMUMostP4
import Derived.Test.YtlngalmdidaahaaGreatDoorMUMostP5
import Derived.Test.YtlngalmdidaahaaGreatDoorMUMostP6
import Derived.Test.YtlngalmdidaahaaGreatDoorMUMostP7
import Derived.Test.YtlngalmdidaahaaGreatDoorMUMostP8
import Derived.Test.YtlngalmdidaahaaGreatDoorMUMostP9
import Derived.Test.YtlngalmdidaahaaGreatDoorMUMostP10
import Derived.Test.YtlngalmdidaahaaGreatDoorMUMostP11
import Derived.Test.YtlngalmdidaahaaGreatDoorMUMostP12
import Derived.Test.YtlngalmdidaahaaGreatDoorMUMostP13
import Derived.Test.YtlngalmdidaahaaGreatDoorMUMostP14
import Derived.Test.YtlngalmdidaahaaGreatDoorMUMostP15
import Derived.Test.YtlngalmdidaahaaGreatDoorMUMostP16
import Derived.Test.YtlngalmdidaahaaGreatDoorMUMostP17
import Derived.Test.YtlngalmdidaahaaGreatDoorMUMostP18
import Derived.Test.YtlngalmdidaahaaGreatDoorMUMostP19
import Derived.Test.YtlngalmdidaahaaGreatDoorMUMostP20
import Derived.Test.YtlngalmdidaahaaGreatDoorMUMostP21
import Derived.Test.YtlngalmdidaahaaGreatDoorMUMostP22
import Derived.Test.YtlngalmdidaahaaGreatDoorMUMostP23
import Derived.Test.YtlngalmdidaahaaGreatDoorMUMostP24
import Derived.Test.YtlngalmdidaahaaGreatDoorMUMostP25
import Derived.Test.YtlngalmdidaahaaGreatDoorMUMostP26
import Derived.Test.YtlngalmdidaahaaGreatDoorMUMostP27
import Derived.Test.YtlngalmdidaahaaGreatDoorMUMostP28
import Derived.Test.YtlngalmdidaahaaGreatDoorMUMostP29
import Derived.Test.YtlngalmdidaahaaGreatDoorMUMostP30
import Derived.Test.YtlngalmdidaahaaGreatDoorMUMostP31
import Derived.Test.YtlngalmdidaahaaGreatDoorMUMostP32
import Derived.Test.YtlngalmdidaahaaGreatDoorMUMostP33
import Derived.Test.YtlngalmdidaahaaGreatDoorMUMostP34
import Derived.Test.YtlngalmdidaahaaGreatDoorMUMostP35
import Derived.Test.YtlngalmdidaahaaGreatDoorMUMostP36
import Derived.Test.YtlngalmdidaahaaGreatDoorMUMostP37
import Derived.Test.YtlngalmdidaahaaGreatDoorMUMostP38
import Derived.Test.YtlngalmdidaahaaGreatDoorMUMostP39
import Derived.Test.YtlngalmdidaahaaGreatDoorMUMostP40
import Derived.Test.YtlngalmdidaahaaGreatDoorMUMostP41
import Derived.Test.YtlngalmdidaahaaGreatDoorMUMostP42
import Derived.Test.YtlngalmdidaahaaGreatDoorMUMostP43
import Derived.Test.YtlngalmdidaahaaGreatDoorMUMostP44
import Derived.Test.YtlngalmdidaahaaGreatDoorMUMostP45
import Derived.Test.YtlngalmdidaahaaGreatDoorMUMostP46
import Derived.Test.YtlngalmdidaahaaGreatDoorQTimesH
set_option linter.unusedSimpArgs false
set_option linter.unusedVariables false
/- gnomonref.CompileOf: the walk. -/
set_option linter.unusedVariables false
set_option linter.unusedSimpArgs false
namespace Gno
open Go
theorem rise_lenN {N : Int} : ∀ {l : List Int} {lo : Int}, l.Pairwise (· < ·) → (∀ n ∈ l, lo ≤ n ∧ n < N) → lo ≤ N → (l.length : Int) ≤ N - lo
  | [], lo, _, _, h => by simp; omega
  | a :: r, lo, h, hb, _ => by
    have ha := hb a (by simp)
    have h1 : ∀ n ∈ r, a < n := (List.pairwise_cons.1 h).1
    have := rise_lenN (l := r) (lo := a + 1) (List.Pairwise.of_cons h) (fun n hn => ⟨by have := h1 n hn; omega, (hb n (by simp [hn])).2⟩) (by omega)
    simp only [List.length_cons]
    omega
theorem of_beq {p a q b : Int} {r c : ByteArray} : (p == a && (q == b && r.toList == c.toList)) = true ↔ Of_.mk p q r = Of_.mk a b c := by
  have h := lastIs_iff (l := [(⟨0, p, q, r⟩ : Tn)]) (y := ⟨0, p, q, r⟩) rfl (Of_.mk a b c)
  exact h
theorem outR_len {H : Int → Of_} {l : List Int} : ∀ k, (outR H l k).length ≤ k
  | 0 => by simp [outR]
  | k + 1 => by
    have ih := outR_len (H := H) (l := l) k
    unfold outR
    split
    · split
      · rw [List.length_append]; simp; omega
      · omega
    · omega
theorem outR_yes {H : Int → Of_} {l : List Int} {k : Nat} {t : Int} (h : l[k]? = some t) (hc : k = 0 ∨ H (t - 1) ≠ H t) : outR H l (k + 1) = outR H l k ++ [offAt (H t) t] := by rw [outR_step h, if_pos hc]
theorem outR_no {H : Int → Of_} {l : List Int} {k : Nat} {t : Int} (h : l[k]? = some t) (h0 : k ≠ 0) (hc : H (t - 1) = H t) : outR H l (k + 1) = outR H l k := by rw [outR_step h, if_neg (by rintro (q | q); exact h0 q; exact q hc)]
end Gno
namespace Go.Proofs.YtlngalmdidaahaaGreatDoor
open Go.RowKit Gno
theorem own_base {w : World} {B C sz n : Nat} {e : TypeId} {v : Value} {xs : List Value} (h : w.ownsRow B e sz v n xs) (hC : C ≤ B) : w.ownsRow C e sz v n xs := by
  refine ⟨h.1, ?_⟩
  rcases h.2 with h | ⟨g, cap, cur, h1, h2, h3⟩
  · exact .inl h
  · exact .inr ⟨g, cap, cur, h1, by omega, h3⟩
theorem ints_cell {w : World} {B g n cap : Nat} {l : List Int} (h : w.ownsRow B 3 1 (.slice (some ⟨g, 0, none⟩) n cap) n (ints l)) {k : Nat} {t : Int} (hk : l[k]? = some t) : w.cell? ⟨g, k, none⟩ = some (.int .i64 t) := by
  have hc := h.cells (g := g) rfl k (.int .i64 t) (by unfold ints; simp [hk])
  have hadd : (⟨g, 0, none⟩ : Addr).add k = ⟨g, k, none⟩ := by unfold Addr.add; split <;> simp_all
  rwa [hadd] at hc
set_option maxRecDepth 100000 in
set_option maxHeartbeats 8000000 in
theorem compileOf_good (d : Dt) (nm : ByteArray) (w : World) (hD : DataAt w w.heap.size d) (hM : MaxAt w w.heap.size) (he : zoneEr d nm = 0) (z : Zn) (hzq : d.zs[(zoneK d nm).toNat]? = some z) (hk0 : 0 ≤ zoneK d nm) :
    Calls Tryz.prog 15 #[d.val, .string nm] w fun e w' => ∃ v, e = .returned (.tuple #[v, .int .i64 0]) ∧ w'.ownsRow (w.heap.size + 1) 56 4 v (compT d z).length (tns (compT d z)) ∧ Below w.heap.size w w' := by
  have HN := Lib.hid (fun W (hb : BoxB d w W) => box_next (d := d) (w := w) (W := W) hD hb)
  obtain ⟨hd0, z', hzq', _, hzm, _, _⟩ := zone_there he
  obtain rfl : z = z' := by rw [hzq] at hzq'; exact Option.some.inj hzq'
  have hr := rightE_of hd0
  have HALL : Hid (outR (zoneO d z) (timesZ d z) (timesZ d z).length = compT d z) := Lib.hid (outR_all hr hzm)
  have hlt := rise_lenN (N := 1893456000) (lo := 0) (timesZ_ok d z).rise (timesZ_ok d z).bd (by omega)
  have HTB : Hid (∀ t ∈ timesZ d z, 0 ≤ t ∧ t < 1893456000) := Lib.hid (timesZ_ok d z).bd
  have hpos : 0 < (timesZ d z).length := List.length_pos_of_mem (timesZ_zero d z)
  have HZ : Hid (∀ W, BoxB d w W → Calls Tryz.prog 29 #[.agg #[.slice d.sA d.sn d.sc, .slice d.zA d.zn d.zc, .slice d.lA d.ln d.lc], .string nm] W fun e w' => e = .returned (.tuple #[.int .i64 (zoneK d nm), .int .i64 0]) ∧ BoxB d w w') := Lib.hid (fun W hb => by
    have := zoneOf_any d nm W (HN.out W hb).2.1
    unfold Dt.val at this
    rw [he] at this
    exact this.mono fun _ _ h => ⟨h.1, hb.trans (h.2.mono (by have := hb.size; simpa using this))⟩)
  have HT : Hid (∀ W, BoxB d w W → Calls Tryz.prog 38 #[.agg #[.slice d.sA d.sn d.sc, .slice d.zA d.zn d.zc, .slice d.lA d.ln d.lc], .int .i64 (zoneK d nm)] W fun e w' => ∃ v, e = .returned v ∧ w'.ownsRow (W.heap.size + 1) 3 1 v (timesZ d z).length (ints (timesZ d z)) ∧ Below W.heap.size W w') := Lib.hid (fun W hb => times_any d (zoneK d nm) z W (HN.out W hb).2.1 hd0 hk0 hzq)
  have HH : Hid (∀ t, t < 1893456000 → ∀ W, BoxB d w W → Calls Tryz.prog 31 #[.agg #[.slice d.sA d.sn d.sc, .slice d.zA d.zn d.zc, .slice d.lA d.ln d.lc], .int .i64 (zoneK d nm), .int .i64 t] W fun e w' => e = .returned (.agg #[.int .i64 (zoneO d z t).tt, .int .i64 (zoneO d z t).sv, .string (zoneO d z t).ab]) ∧ Below W.heap.size W w') := Lib.hid (fun t ht W hb => holdsRef_any d (zoneK d nm) t z W (HN.out W hb).2.1 (hM.next (HN.out W hb).1) hr hzq hk0 ht)
  have HDC : Hid (∀ W, BoxB d w W → (W.cell? ⟨w.heap.size, 0, none⟩ = some (.slice d.sA d.sn d.sc) ∧ W.cell? ⟨w.heap.size, 1, none⟩ = some (.slice d.zA d.zn d.zc) ∧ W.cell? ⟨w.heap.size, 2, none⟩ = some (.slice d.lA d.ln d.lc))) := Lib.hid (fun W h => (HN.out W h).2.2)
  obtain ⟨K, hK⟩ : ∃ v, v = zoneK d nm := ⟨_, rfl⟩
  rw [← hK] at HZ HT HH
  obtain ⟨l, hl⟩ : ∃ v, v = timesZ d z := ⟨_, rfl⟩
  rw [← hl] at HALL hlt HTB hpos HT
  obtain ⟨n, hn⟩ : ∃ v, v = l.length := ⟨_, rfl⟩
  rw [← hn] at HALL hlt hpos HT
  have HLN := Lib.hid hn
  obtain ⟨H, hH⟩ : ∃ v, v = zoneO d z := ⟨_, rfl⟩
  rw [← hH] at HALL HH
  clear hK hl hn hH hd0 hzq hzq' hzm hr hM he hk0
  unfold Dt.val
  have hbb : BoxB d w (w.alloc (Dobj d)) := Below.refl _ _
  go_enter Tryz.func15, Tryz.ntmps15
  go_wp2_with fail
  refine (HZ.out _ hbb).mono ?_
  rintro e w1 ⟨rfl, h1⟩
  obtain ⟨c0, c1, c2⟩ := HDC.out _ h1
  have H1 := Lib.hid h1
  clear h1 hbb
  go_wp2_with fail
  refine (HT.out _ H1.out).mono ?_
  rintro e w2 ⟨v, rfl, hown, h2⟩
  obtain ⟨g, cap, rfl, hg1⟩ := row_shape hown (by rw [← HLN.out]; exact hpos)
  have hBX : BoxB d w w2 := H1.out.trans (h2.mono (by have := H1.out.size; simpa using this))
  have hsz := hBX.size
  have hgl := (hown.lt g rfl).2
  obtain ⟨B, hB⟩ : ∃ B, B = w2.heap.size := ⟨_, rfl⟩
  rw [← hB] at hsz hgl
  have HX : Hid (∀ W, Below B w2 W → BoxB d w W ∧ (∀ k t, l[k]? = some t → W.cell? ⟨g, k, none⟩ = some (.int .i64 t)) ∧ B ≤ W.heap.size) := Lib.hid (fun W h => ⟨hBX.trans (h.mono (by simpa using hsz)), fun k t hk => (h.cell hgl).trans (ints_cell hown hk), by rw [hB]; exact h.size⟩)
  have H20 : Hid (Below B w2 w2) := Lib.hid (Below.refl _ _)
  have hsz1 : w.heap.size + 1 ≤ B := by simpa using hsz
  clear hown h2 hBX hB hg1 hsz c0 c1 c2
  go_wp2_with fail
  go_loopw [9, 10] (fun b9 b10 wr => ∃ (k : Nat) (v : Value), k ≤ n ∧ b10 = .int .i64 k ∧ v = b9 ∧ Hid (wr.ownsRow B 56 4 v (outR H l k).length (tns (outR H l k))) ∧ Hid (Below B w2 wr)) (fun _ b10 _ => n - (intOf b10).toNat)
  case atStart => exact ⟨0, _, Nat.zero_le _, rfl, rfl, Lib.hid (World.ownsRow_nil _ _ _ _), H20⟩
  case round =>
    clear H20
    obtain ⟨k, v, hk, rfl, rfl, hO, hb⟩ := hrel
    by_cases hkn : k < n
    · obtain ⟨t, ht⟩ : ∃ t, l[k]? = some t := ⟨_, List.getElem?_eq_getElem (by rw [← HLN.out]; exact hkn)⟩
      have htb := HTB.out t (List.mem_of_getElem? ht)
      obtain ⟨hbx, hcell, hBs⟩ := HX.out _ hb.out
      have hws : w.heap.size + 1 ≤ wr.heap.size := by have := hbx.size; simpa using this
      have e0 := hcell k t ht
      obtain ⟨c0, c1, c2⟩ := HDC.out _ hbx
      have HH9 := Lib.hid (fun V (h : Below wr.heap.size wr V) => HH.out t htb.2 V (hbx.trans (h.mono hws)))
      have HOY : Hid (k = 0 ∨ H (t - 1) ≠ H t → outR H l (k + 1) = outR H l k ++ [offAt (H t) t]) := Lib.hid (outR_yes ht)
      have HON : Hid (k ≠ 0 → H (t - 1) = H t → outR H l (k + 1) = outR H l k) := Lib.hid (outR_no ht)
      have HHP := Lib.hid (fun W (h : Below B w2 W) => HH.out (t - 1) (by omega) W (HX.out _ h).1)
      obtain ⟨⟨TT, SS, AB⟩, hHt⟩ : ∃ o, o = H t := ⟨_, rfl⟩
      obtain ⟨⟨TP, SP, AP⟩, hHp⟩ : ∃ o, o = H (t - 1) := ⟨_, rfl⟩
      rw [← hHt] at HH9 HOY HON
      rw [← hHp] at HHP HOY HON
      have hLl := outR_len (H := H) (l := l) k
      obtain ⟨L, hL⟩ : ∃ L, L = outR H l k := ⟨_, rfl⟩
      rw [← hL] at hO hLl HOY HON
      have HE := Lib.hid ht
      have hwt : IntKind.i64.wrap (t - 1) = t - 1 := by rw [IntKind.wrap_i64]; omega
      clear ht hHt hHp hL hcell hbx
      go_wp2_with fail
      refine cof9 d w.heap.size g n cap k K t TT SS AB wr _ _ _ _ _ _ _ _ _ _ _ _ _ _ _ _ _ _ _ _ _ _ _ _ _ _ _ _ _ _ _ _ _ _ _ _ _ _ _ _ _ _ _ _ _ _ _ _ _ _ _ _ _ _ _ _ _ _ c0 c1 c2 e0 hkn HH9.out ?_
      intro p W9 u30 u31 u32 u33 u34 u35 u36 hb9 hp hpl
      have HB9 := Lib.hid (hb.out.trans (hb9.mono hBs))
      have HO9 := Lib.hid (own_of_below hO.out hb9 (Nat.le_refl _))
      have HAP : Hid (∀ q, v.ownBlock = some q → q ≠ g ∧ q ≠ p) := Lib.hid (fun q hq => by
        have := hO.out.lt q hq
        omega)
      have HP9 := Lib.hid hp
      clear hb9 hp hpl c0 c1 c2 e0 HH9 hO hb hws hBs
      by_cases hk0 : k = 0
      · subst hk0
        have HY : Hid (outR H l (0 + 1) = L ++ [offAt (⟨TT, SS, AB⟩ : Of_) t]) := Lib.hid (HOY.out (.inl rfl))
        clear HOY HON HHP
        go_wp2_with fail
        go_quiet (fail)
        obtain ⟨W10, hW10⟩ : ∃ v : World, v = W9.drewN nq := ⟨_, rfl⟩
        have HB10 : Hid (Below B w2 W10) := Lib.hid (by rw [hW10]; exact below_drewN HB9.out _)
        have HO10 : Hid (W10.ownsRow B 56 4 v L.length (tns L)) := Lib.hid (by rw [hW10]; exact HO9.out)
        have hp10 : W10.heap[p]? = some (offO TT SS AB) := by rw [hW10]; exact HP9.out
        rw [← hW10]
        clear hW10
        obtain ⟨hbx, hcell, hBs⟩ := HX.out _ HB10.out
        have e0 := hcell 0 t HE.out
        clear hcell hbx
        go_wp2_with fail
        refine cof11 g n cap 0 p L.length B t TT SS AB (tns L) v W10 _ _ _ _ _ _ _ _ _ _ _ _ _ _ _ _ _ _ _ _ _ _ _ _ _ _ _ _ _ _ _ _ _ _ _ _ _ _ _ _ _ _ _ _ _ _ _ _ _ _ _ _ _ _ _ _ _ _ e0 hkn hp10 HO10.out (by omega) hBs HAP.out ?_
        intro v' W11 u51 u52 u53 u54 u55 u56 u57 u58 u59 hown11 hb11
        have HR : Hid (W11.ownsRow B 56 4 v' (outR H l (0 + 1)).length (tns (outR H l (0 + 1)))) := Lib.hid (by
          rw [HY.out, tns_app, List.length_append]
          exact hown11)
        have HB11 := Lib.hid (HB10.out.trans hb11)
        clear hown11 hb11 e0 hBs
        go_wp2
        go_roundw
        case rel => exact ⟨0 + 1, v', by omega, by go_num, rfl, HR, HB11⟩
        case measure => simp [intOf]; omega
      · have hk0' : ((k : Int) == 0) = false := by simp; omega
        obtain ⟨hbx, hcell, hBs⟩ := HX.out _ HB9.out
        have e0 := hcell k t HE.out
        obtain ⟨c0, c1, c2⟩ := HDC.out _ hbx
        have HPP := Lib.hid (fun V (h : Below W9.heap.size W9 V) => HHP.out V (HB9.out.trans (h.mono hBs)))
        cases hbe : (TP == TT && (SP == SS && AP.toList == AB.toList))
        · have HY : Hid (outR H l (k + 1) = L ++ [offAt (⟨TT, SS, AB⟩ : Of_) t]) := Lib.hid (HOY.out (.inr fun e => by
            rw [of_beq.2 e] at hbe; cases hbe))
          clear HOY HON HHP hcell hbx
          go_wp2_with fail
          refine cof10 d w.heap.size g n cap k p K t TT SS TP SP AB AP true (by rw [hbe]; rfl) W9 _ _ _ _ _ _ _ _ _ _ _ _ _ _ _ _ _ _ _ _ _ _ _ _ _ _ _ _ _ _ _ _ _ _ _ _ _ _ _ _ _ _ _ _ _ _ _ _ _ _ _ _ _ _ _ _ _ c0 c1 c2 e0 hkn hk0' hwt HP9.out HPP.out ?_
          intro W10 u37 u38 u39 u40 u41 u42 u43 u44 u45 u46 u47 u48 u49 hb10
          have HB10 := Lib.hid (HB9.out.trans (hb10.mono hBs))
          have HO10 := Lib.hid (own_of_below HO9.out hb10 (Nat.le_refl _))
          have hp10 := heap_below_keep HP9.out hb10
          clear hb10 c0 c1 c2 e0 HPP hBs
          obtain ⟨hbx, hcell, hBs⟩ := HX.out _ HB10.out
          have e0 := hcell k t HE.out
          clear hcell hbx
          go_wp2_with fail
          refine cof11 g n cap k p L.length B t TT SS AB (tns L) v W10 _ _ _ _ _ _ _ _ _ _ _ _ _ _ _ _ _ _ _ _ _ _ _ _ _ _ _ _ _ _ _ _ _ _ _ _ _ _ _ _ _ _ _ _ _ _ _ _ _ _ _ _ _ _ _ _ _ _ e0 hkn hp10 HO10.out (by omega) hBs HAP.out ?_
          intro v' W11 u51 u52 u53 u54 u55 u56 u57 u58 u59 hown11 hb11
          have HR : Hid (W11.ownsRow B 56 4 v' (outR H l (k + 1)).length (tns (outR H l (k + 1)))) := Lib.hid (by
            rw [HY.out, tns_app, List.length_append]
            exact hown11)
          have HB11 := Lib.hid (HB10.out.trans hb11)
          clear hown11 hb11 e0 hBs
          go_wp2
          go_roundw
          case rel => exact ⟨k + 1, v', by omega, by go_num, rfl, HR, HB11⟩
          case measure => simp [intOf]; omega
        · have HY : Hid (outR H l (k + 1) = L) := Lib.hid (HON.out hk0 (of_beq.1 hbe))
          clear HOY HON HHP hcell hbx
          go_wp2_with fail
          refine cof10 d w.heap.size g n cap k p K t TT SS TP SP AB AP false (by rw [hbe]; rfl) W9 _ _ _ _ _ _ _ _ _ _ _ _ _ _ _ _ _ _ _ _ _ _ _ _ _ _ _ _ _ _ _ _ _ _ _ _ _ _ _ _ _ _ _ _ _ _ _ _ _ _ _ _ _ _ _ _ _ c0 c1 c2 e0 hkn hk0' hwt HP9.out HPP.out ?_
          intro W10 u37 u38 u39 u40 u41 u42 u43 u44 u45 u46 u47 u48 u49 hb10
          have HB10 := Lib.hid (HB9.out.trans (hb10.mono hBs))
          have HO10 : Hid (W10.ownsRow B 56 4 v (outR H l (k + 1)).length (tns (outR H l (k + 1)))) := Lib.hid (by rw [HY.out]; exact own_of_below HO9.out hb10 (Nat.le_refl _))
          clear hb10 c0 c1 c2 e0 HPP hBs
          go_wp2
          go_roundw
          case rel => exact ⟨k + 1, v, by omega, by go_num, rfl, HO10, HB10⟩
          case measure => simp [intOf]; omega
    · have hkk : k = n := by omega
      have HOE : Hid (wr.ownsRow (w.heap.size + 1) 56 4 v (compT d z).length (tns (compT d z))) := Lib.hid (by rw [← HALL.out, ← hkk]; exact own_base hO.out hsz1)
      have HBE := Lib.hid (HN.out _ (HX.out _ hb.out).1).1
      clear hkk
      go_wp2
      go_ret2
      exact ⟨v, rfl, HOE.out, HBE.out⟩
end Go.Proofs.YtlngalmdidaahaaGreatDoor

/- gnomonref.CompileOf: what it tells. -/
set_option linter.unusedVariables false
namespace Go.Proofs.YtlngalmdidaahaaGreatDoor
open Go.RowKit Gno
theorem tabN_few9 {d : Dt} {nm : ByteArray} {w : World} (hD : DataAt w w.heap.size d) : (tabN d nm).length ≤ 964 := by
  by_cases he : zoneEr d nm = 0
  · obtain ⟨hd0, z, hzq, hoz, hzm, _, _⟩ := zone_there he
    have hr := rightE_of hd0
    have ht : tabN d nm = compT d z := by unfold tabN; rw [if_pos he, hoz]
    have hlen : (compT d z).length ≤ 241 * z.es.length := comp_len hr (fun s hs => by
      obtain ⟨i, hi⟩ := List.getElem?_of_mem hs
      have hil := (List.getElem?_eq_some_iff.1 hi).1
      obtain ⟨_, _, q, _, _, hq, _, hq2⟩ := sets_get hD.1 (i := i) (by have := hD.1.1; omega)
      rw [hi] at hq
      injection hq with hq
      subst hq
      have h1 := ((hq2 w (Below.refl _ _)).2).1
      have h2 := rules_few hd0 hs
      omega) z.es z.es.length
    have hz4 : z.es.length ≤ 4 := by
      obtain ⟨i, hi⟩ := List.getElem?_of_mem hzm
      have hil := (List.getElem?_eq_some_iff.1 hi).1
      obtain ⟨_, _, q, _, _, hq, _, hq2⟩ := zones_get hD.2.1 (i := i) (by have := hD.2.1.1; omega)
      rw [hi] at hq
      injection hq with hq
      subst hq
      have h1 := ((hq2 w (Below.refl _ _)).2).1
      have h2 := eras_few hd0 hzm
      omega
    rw [ht]
    omega
  · rw [tab_none he]
    simp
set_option maxRecDepth 100000 in
set_option maxHeartbeats 4000000 in
theorem compileOf_bad (d : Dt) (nm : ByteArray) (w : World) (hD : DataAt w w.heap.size d) (he : zoneEr d nm ≠ 0) :
    Calls Tryz.prog 15 #[d.val, .string nm] w fun e w' => e = .returned (.tuple #[.slice none 0 0, .int .i64 (zoneEr d nm)]) ∧ Below w.heap.size w w' := by
  have HN := Lib.hid (fun W (hb : BoxB d w W) => box_next (d := d) (w := w) (W := W) hD hb)
  have HZ : Hid (∀ W, BoxB d w W → Calls Tryz.prog 29 #[d.val, .string nm] W fun e w' => e = .returned (.tuple #[.int .i64 (zoneK d nm), .int .i64 (zoneEr d nm)]) ∧ BoxB d w w') := Lib.hid (fun W hb =>
    (zoneOf_any d nm W (HN.out W hb).2.1).mono fun _ _ h => ⟨h.1, hb.trans (h.2.mono (by have := hb.size; simpa using this))⟩)
  have hbb : BoxB d w (w.alloc (Dobj d)) := Below.refl _ _
  clear hD
  unfold Dt.val at *
  obtain ⟨KK, hK⟩ : ∃ v, v = zoneK d nm := ⟨_, rfl⟩
  obtain ⟨EE, hEE⟩ : ∃ v, v = zoneEr d nm := ⟨_, rfl⟩
  rw [← hK, ← hEE] at HZ
  rw [← hEE] at he ⊢
  have g1 : (EE != 0) = true := by simpa using he
  clear hK hEE he
  go_enter Tryz.func15, Tryz.ntmps15
  go_wp2_with fail
  refine (HZ.out _ hbb).mono ?_
  rintro e w1 ⟨rfl, h1⟩
  have h2 := (HN.out _ h1).1
  go_wp2
  go_ret2
  exact ⟨rfl, h2⟩
theorem compileOf_any (d : Dt) (nm : ByteArray) (w : World) (hD : DataAt w w.heap.size d) (hM : MaxAt w w.heap.size) :
    Calls Tryz.prog 15 #[d.val, .string nm] w fun e w' => ∃ A cap, e = .returned (.tuple #[.slice A (tabN d nm).length cap, .int .i64 (zoneEr d nm)]) ∧ TurnsAt w' w'.heap.size A (tabN d nm).length (tabN d nm) ∧ Below w.heap.size w w' := by
  by_cases he : zoneEr d nm = 0
  · obtain ⟨hd0, z, hzq, hoz, hzm, hk0, _⟩ := zone_there he
    have hr := rightE_of hd0
    have hfew := tabN_few9 (nm := nm) hD
    have ht : tabN d nm = compT d z := by unfold tabN; rw [if_pos he, hoz]
    rw [ht] at hfew ⊢
    rw [he]
    refine (compileOf_good d nm w hD hM he z hzq hk0).mono ?_
    rintro e w' ⟨v, rfl, hown, hb⟩
    obtain ⟨A, cap, rfl, hT⟩ := turns_own hown (by unfold maxLen; omega) (compT_ab hr hzm)
    exact ⟨A, cap, rfl, hT, hb⟩
  · have ht : tabN d nm = [] := by unfold tabN; rw [if_neg he]
    rw [ht]
    refine (compileOf_bad d nm w hD he).mono ?_
    rintro e w' ⟨rfl, hb⟩
    exact ⟨none, 0, rfl, ⟨rfl, by unfold maxLen; simp, fun h => absurd h (by simp)⟩, hb⟩
set_option maxRecDepth 100000 in
set_option maxHeartbeats 8000000 in
theorem tableTells_walk (d : Dt) (nm : ByteArray) (A : Option Addr) (n cap : Nat) (l : List Tn) (t : Int) (w : World) (hD : DataAt w w.heap.size d) (hM : MaxAt w w.heap.size) (hL : TurnsAt w w.heap.size A n l) (hn : n ≤ 1073741824) :
    Calls Tryz.prog 4 #[d.val, .string nm, .slice A n cap, .int .i64 t] w fun e w' => e = .returned (.bool true) ∧ Below w.heap.size w w' := by
  have HN := Lib.hid (fun W (hb : BoxB d w W) => box_next (d := d) (w := w) (W := W) hD hb)
  have CO := Lib.hid (fun W (hb : BoxB d w W) => compile_any d nm W (HN.out W hb).2.1 (hM.next (HN.out W hb).1))
  have CR := Lib.hid (fun W (hb : BoxB d w W) => compileOf_any d nm W (HN.out W hb).2.1 (hM.next (HN.out W hb).1))
  have LO := Lib.hid (fun W (hb : BoxB d w W) => look_any A n cap l t W (hL.next (HN.out W hb).1) hn)
  have LR := Lib.hid (fun W (hb : BoxB d w W) => lookOf_any A n cap l t W (hL.next (HN.out W hb).1) hn)
  have B1 := Lib.hid (fun W (hb : BoxB d w W) => tableBegun_any W (hM.next (HN.out W hb).1))
  have hbb : BoxB d w (w.alloc (Dobj d)) := Below.refl _ _
  clear hD hM hL hn
  unfold Dt.val at *
  obtain ⟨T, hT⟩ : ∃ v, v = tabN d nm := ⟨_, rfl⟩
  rw [← hT] at CO CR
  clear hT
  obtain ⟨EE, hE⟩ : ∃ v, v = zoneEr d nm := ⟨_, rfl⟩
  rw [← hE] at CO CR
  clear hE
  obtain ⟨LE, hLE⟩ : ∃ v, v = lookE l t := ⟨_, rfl⟩
  obtain ⟨TT, hTT⟩ : ∃ v, v = (lookY l t).tt := ⟨_, rfl⟩
  obtain ⟨SS, hSS⟩ : ∃ v, v = (lookY l t).sv := ⟨_, rfl⟩
  obtain ⟨AB, hAB⟩ : ∃ v, v = (lookY l t).ab := ⟨_, rfl⟩
  rw [← hLE, ← hTT, ← hSS, ← hAB] at LO LR
  clear hLE hTT hSS hAB
  have HS := Lib.hid (fun A A' n cap cap' l W => sameTurns_any A A' n cap cap' l W)
  have HW : Hid (∀ U V, BoxB d w U → Below U.heap.size U V → BoxB d w V) := Lib.hid (fun U V h h2 => h.trans (h2.mono (by have := h.size; simpa using this)))
  have HO : Hid (∀ U W : World, Below (U.alloc (.cells #[.int .i64 TT, .int .i64 SS, .string AB] 28)).heap.size (U.alloc (.cells #[.int .i64 TT, .int .i64 SS, .string AB] 28)) W → W.cell? ⟨U.heap.size, 0, none⟩ = some (.int .i64 TT) ∧ W.cell? ⟨U.heap.size, 1, none⟩ = some (.int .i64 SS) ∧ W.cell? ⟨U.heap.size, 2, none⟩ = some (.string AB)) := Lib.hid (fun U W h => by
    have k := (h.block U.heap.size (by simp)).trans (World.alloc_heap_new U (.cells #[.int .i64 TT, .int .i64 SS, .string AB] 28))
    exact ⟨cell_of k rfl, cell_of k rfl, cell_of k rfl⟩)
  have HAL : Hid (∀ U : World, Below U.heap.size U (U.alloc (.cells #[.int .i64 TT, .int .i64 SS, .string AB] 28))) := Lib.hid (fun U => (Below.refl _ _).alloc (Nat.le_refl _) _)
  obtain ⟨N, hN⟩ : ∃ v, v = T.length := ⟨_, rfl⟩
  rw [← hN] at CO CR
  clear hN
  go_enter Tryz.func4, Tryz.ntmps4
  go_wp2_with fail
  refine (CO.out _ hbb).mono ?_
  rintro e u1 ⟨A1, cap1, rfl, hT1, h1⟩
  have hb1 : BoxB d w u1 := HW.out _ _ hbb h1
  have HB1 := Lib.hid hb1
  have HT1 := Lib.hid hT1
  clear hT1 h1 hbb hb1
  go_wp2_with fail
  refine (LO.out _ HB1.out).mono ?_
  rintro e u2 ⟨rfl, h2⟩
  have HB2 := Lib.hid (h2.trans ((HAL.out u2).mono h2.size))
  have HBX2 := Lib.hid (HW.out _ _ HB1.out HB2.out)
  obtain ⟨_, _, c0, c1, c2⟩ := HN.out _ HBX2.out
  clear h2
  go_wp2_with fail
  refine (CR.out _ HBX2.out).mono ?_
  rintro e u3 ⟨A3, cap3, rfl, hT3, h3⟩
  have HT3 := Lib.hid hT3
  have HB3 := Lib.hid h3
  have HBX3 := Lib.hid (HW.out _ _ HBX2.out h3)
  clear hT3 h3 c0 c1 c2
  go_wp2_with fail
  refine (LR.out _ HBX3.out).mono ?_
  rintro e u4 ⟨rfl, h4⟩
  have HB4 := Lib.hid (h4.trans ((HAL.out u4).mono h4.size))
  have HBX4 := Lib.hid (HW.out _ _ HBX3.out HB4.out)
  clear h4
  go_wp2_with fail
  refine (B1.out _ HBX4.out).mono ?_
  rintro e u5 ⟨rfl, h5⟩
  have HB5 := Lib.hid h5
  have HBX5 := Lib.hid (HW.out _ _ HBX4.out h5)
  have hq3 : Below u3.heap.size u3 u5 := HB4.out.trans (HB5.out.mono HB4.out.size)
  have hq2 : Below (u2.alloc (.cells #[.int .i64 TT, .int .i64 SS, .string AB] 28)).heap.size (u2.alloc (.cells #[.int .i64 TT, .int .i64 SS, .string AB] 28)) u5 := HB3.out.trans (hq3.mono HB3.out.size)
  have hq1 : Below u1.heap.size u1 u5 := HB2.out.trans (hq2.mono HB2.out.size)
  have HT5 := Lib.hid (HT1.out.next hq1)
  have HT6 := Lib.hid (HT3.out.next hq3)
  have HQ2 := Lib.hid hq2
  clear h5 hq1 hq2 hq3
  go_wp2_with fail
  refine (HS.out _ _ _ _ _ _ _ HT5.out HT6.out).mono ?_
  rintro e u6 ⟨rfl, h6⟩
  obtain ⟨a0, a1, a2⟩ := HO.out _ _ (HQ2.out.trans (h6.mono HQ2.out.size))
  obtain ⟨b0, b1, b2⟩ := HO.out _ _ (HB5.out.trans (h6.mono HB5.out.size))
  have hbf := (HN.out _ (HW.out _ _ HBX5.out h6)).1
  clear h6
  go_wp2
  go_ret
  exact ⟨rfl, hbf⟩
end Go.Proofs.YtlngalmdidaahaaGreatDoor

/- An argument of type []Turn, opened, where it is small. -/
set_option linter.unusedVariables false
namespace Go.Proofs.YtlngalmdidaahaaGreatDoor
open Go.ChangeShapes Go.WideShapes Go.ChangeAt Go.RowKit Gno
theorem cellsTurn : Tryz.prog.cellsOf 56 = 4 := by kernel_rfl
theorem cellsOff : Tryz.prog.cellsOf 28 = 3 := by kernel_rfl
section
variable {H : Type} {enc : TypeId × Value → H} {w : World} {base : Nat} {spare : Nat → Bool} {held : Bool}
set_option maxRecDepth 100000 in
theorem trod_Off {fuel : Nat} {cs : List Value} {x : DataW H × List MemPlace} (ht : DataW.trod enc Tryz.prog w base spare held fuel 28 cs = some x) :
    ∃ (a b : Int) (c : ByteArray), cs = [.int .i64 a, .int .i64 b, .string c] ∧ c.size ≤ maxLen := by
  obtain ⟨xs, n, _, _, hl, hlen, hf⟩ := DataW.trod_struct Tryz.underlying28 ht
  match cs, hl.trans cellsOff with
  | [c0, c1, c2], _ =>
    have h0 := hf 0 _ rfl
    have h1 := hf 1 _ rfl
    have h2 := hf 2 _ rfl
    simp [cellsInt, cellsString] at h0 h1 h2
    rw [List.getElem?_eq_getElem (by simp at hlen; omega)] at h0 h1 h2
    obtain ⟨a, e0, _⟩ := DataW.trod_int Tryz.underlying3 h0
    obtain ⟨b, e1, _⟩ := DataW.trod_int Tryz.underlying3 h1
    obtain ⟨c, e2, _, hs⟩ := DataW.trod_string Tryz.underlying9 h2
    simp at e0 e1 e2
    exact ⟨a, b, c, by rw [e0, e1, e2], hs⟩
set_option maxRecDepth 100000 in
theorem openTurns {b0 : Nat} {r : Reach} {v : Value} {d : DataW H} {p : List MemPlace}
    (hv : Value.okWide Tryz.prog w r b0 34 v) (h : DataW.Trod enc Tryz.prog w base spare held 34 v d p) (hx : Small d) :
    ∃ (A : Option Addr) (n cap : Nat) (l : List Tn), v = .slice A n cap ∧ n ≤ 1048576 ∧ TurnsAt w w.heap.size A n l := by
  obtain ⟨a0, len, cap, rfl⟩ := okWide_slice Tryz.underlying34 hv
  obtain ⟨fuel, hf⟩ := h
  obtain ⟨A, n, c, l, hc, _, _, h3, hn, _⟩ := open_slice_sm (α := Tn) (sz := 4) Tryz.underlying34 cellsTurn (by omega) (fun w B b o y => TnAt w b o y ∧ y.ab.size ≤ maxLen) (fun fuel cs x ht _ => by
    obtain ⟨xs, n, _, _, hl, hlen, hf⟩ := DataW.trod_struct Tryz.underlying56 ht
    match cs, hl.trans cellsTurn with
    | [c0, c1, c2, c3], _ =>
      have h0 := hf 0 _ rfl
      have h1 := hf 1 _ rfl
      simp [cellsInt, cellsOff] at h0 h1
      rw [List.getElem?_eq_getElem (by simp at hlen; omega)] at h0 h1
      obtain ⟨z, e0, _⟩ := DataW.trod_int Tryz.underlying3 h0
      obtain ⟨a, b, c, e1, hs⟩ := trod_Off h1
      simp at e0 e1
      obtain ⟨e1, e2, e3⟩ := e1
      exact ⟨⟨z, a, b, c⟩, rfl, fun b o hc => ⟨⟨by have h9 := hc 0 (by omega); rw [e0] at h9; exact h9, by have h9 := hc 1 (by omega); rw [e1] at h9; exact h9, by have h9 := hc 2 (by omega); rw [e2] at h9; exact h9, by have h9 := hc 3 (by omega); rw [e3] at h9; exact h9⟩, hs⟩⟩) hf hx
  simp [Value.cells] at hc
  obtain ⟨rfl, rfl, rfl⟩ := hc
  exact ⟨_, _, _, l, rfl, hn, h3⟩
end
end Go.Proofs.YtlngalmdidaahaaGreatDoor
